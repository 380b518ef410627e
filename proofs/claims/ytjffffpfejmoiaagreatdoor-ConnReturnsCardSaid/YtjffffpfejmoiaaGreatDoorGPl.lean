/-
  Several texts in one: HText, HBackP, HWq, HRq, HRetP, HPreP, HAgP.
-/
import Derived.Test.YtjffffpfejmoiaaGreatDoorGHd
import Derived.Test.YtjffffpfejmoiaaGreatDoorGWr
import Derived.Test.YtjffffpfejmoiaaGreatDoorGHo
import Derived.Test.YtjffffpfejmoiaaGreatDoorGByt
/-
  Layer 5: a head that is written is read back: the plain law of its lines.
-/
namespace Go.Proofs.YtjffffpfejmoiaaGreatDoor
open Go.RowKit Syn Hd Ck

namespace Hd
/-- A line without CR, LF and byte 0. -/
def clr (l : List UInt8) : Prop := ∀ c ∈ l, c.toNat ≠ 0 ∧ c.toNat ≠ 10 ∧ c.toNat ≠ 13
def txt (Ls : List (List UInt8)) : List UInt8 := Ls.flatMap (· ++ [13, 10])
def jn : List (List UInt8) → List UInt8
  | [] => []
  | [l] => l
  | l :: m :: r => l ++ 13 :: 10 :: jn (m :: r)
theorem clr_ne {l : List UInt8} (h : clr l) : ∀ c ∈ l, c ≠ 13 := fun c hc e => (h c hc).2.2 (by rw [e]; rfl)
theorem txt_cons (l : List UInt8) (r : List (List UInt8)) : txt (l :: r) = l ++ 13 :: 10 :: txt r := by
  unfold txt; rw [List.flatMap_cons, List.append_assoc]; rfl
theorem txt_jn : ∀ {Ls : List (List UInt8)}, Ls ≠ [] → txt Ls = jn Ls ++ [13, 10]
  | [], h => absurd rfl h
  | [l], _ => by rw [txt_cons]; rfl
  | l :: m :: r, _ => by rw [txt_cons, txt_jn (by simp), jn]; simp
theorem index_cons (c : UInt8) (l sub : List UInt8) : Lib.index (c :: l) sub = if sub.isPrefixOf (c :: l) = true then 0 else if Lib.index l sub = -1 then -1 else Lib.index l sub + 1 := by
  rw [Lib.index]
  by_cases h : sub.isPrefixOf (c :: l) = true
  · rw [if_pos h, if_pos h]
  · rw [if_neg h, if_neg h]
    by_cases h2 : Lib.index l sub = -1
    · rw [if_pos (by rw [h2]; rfl), if_pos h2]
    · rw [if_neg (by rw [beq_iff_eq]; exact h2), if_neg h2]
/-- What stands before the first CR is passed over. -/
theorem index_skip {sub t : List UInt8} {n : Nat} (ht : Lib.index t (13 :: sub) = (n : Int)) : ∀ (l : List UInt8), (∀ c ∈ l, c ≠ 13) → Lib.index (l ++ t) (13 :: sub) = ((l.length + n : Nat) : Int)
  | [], _ => by rw [List.nil_append, ht, List.length_nil, Nat.zero_add]
  | c :: l, h => by
    have ih := index_skip ht l (fun x hx => h x (by simp [hx]))
    have hc := h c (by simp)
    rw [List.cons_append, index_cons, if_neg (by rw [List.isPrefixOf_cons_cons]; simp; intro e; exact absurd e.symm hc), ih, if_neg (by omega), List.length_cons]
    omega
theorem index_skip2 {t : List UInt8} {n : Nat} (ht : Lib.index t [13, 10, 13, 10] = (n : Int)) (hp : ([13, 10] : List UInt8).isPrefixOf t = false) : Lib.index (13 :: 10 :: t) [13, 10, 13, 10] = ((2 + n : Nat) : Int) := by
  have h1 : ([13, 10, 13, 10] : List UInt8).isPrefixOf (13 :: 10 :: t) = false := by
    rw [List.isPrefixOf_cons_cons, List.isPrefixOf_cons_cons]; simpa using hp
  have h2 : ([13, 10, 13, 10] : List UInt8).isPrefixOf (10 :: t) = false := by
    rw [List.isPrefixOf_cons_cons]; rfl
  have h3 : Lib.index (10 :: t) [13, 10, 13, 10] = (n : Int) + 1 := by rw [index_cons, if_neg (by rw [h2]; decide), ht, if_neg (by omega)]
  rw [index_cons, if_neg (by rw [h1]; decide), h3, if_neg (by omega)]
  omega
theorem nopre {l t : List UInt8} (hl : l ≠ []) (h : ∀ c ∈ l, c ≠ 13) : ([13, 10] : List UInt8).isPrefixOf (l ++ t) = false := by
  cases l with
  | nil => exact absurd rfl hl
  | cons c l =>
    rw [List.cons_append, List.isPrefixOf_cons_cons]
    have := h c (by simp)
    simp; intro e; exact absurd e.symm this
/-- Where the lines end. -/
theorem index_txt (rest : List UInt8) : ∀ (l : List UInt8) (r : List (List UInt8)), (∀ x ∈ l :: r, x ≠ [] ∧ clr x) → ∃ n : Nat, Lib.index (txt (l :: r) ++ 13 :: 10 :: rest) [13, 10, 13, 10] = (n : Int) ∧ n + 2 = (txt (l :: r)).length
  | l, [], h => by
    have hc := clr_ne (h l (by simp)).2
    have h0 : Lib.index (13 :: 10 :: 13 :: 10 :: rest) [13, 10, 13, 10] = ((0 : Nat) : Int) := by
      rw [index_cons, if_pos (by simp)]; rfl
    refine ⟨l.length + 0, ?_, ?_⟩
    · rw [txt_cons, List.append_assoc]
      exact index_skip h0 l hc
    · rw [txt_cons, List.length_append]; rfl
  | l, m :: r, h => by
    obtain ⟨n, h1, h2⟩ := index_txt rest m r (fun x hx => h x (by simp at hx ⊢; right; exact hx))
    have hm := h m (by simp)
    have h3 := index_skip2 h1 (by
      rw [txt_cons, List.append_assoc]; exact nopre hm.1 (clr_ne hm.2))
    refine ⟨l.length + (2 + n), ?_, ?_⟩
    · rw [txt_cons l, List.append_assoc]
      exact index_skip h3 l (clr_ne (h l (by simp)).2)
    · rw [txt_cons l, List.length_append, List.length_cons, List.length_cons, ← h2]; omega
theorem endF_txt {l : List UInt8} {r : List (List UInt8)} (rest : List UInt8) (h : ∀ x ∈ l :: r, x ≠ [] ∧ clr x) : endF (txt (l :: r) ++ 13 :: 10 :: rest) = (((txt (l :: r)).length + 2 : Nat) : Int) := by
  obtain ⟨n, h1, h2⟩ := index_txt rest l r h
  unfold endF Lib.hasPrefix
  have hl := h l (by simp)
  rw [if_neg (by rw [txt_cons, List.append_assoc, nopre hl.1 (clr_ne hl.2)]; decide), h1, if_neg (by omega)]
  omega
theorem index_none13 : ∀ (l : List UInt8), (∀ c ∈ l, c ≠ 13) → Lib.index l [13, 10] = -1
  | [], _ => rfl
  | c :: l, h => by
    have ih := index_none13 l (fun x hx => h x (by simp [hx]))
    have hc := h c (by simp)
    rw [index_cons, if_neg (by rw [List.isPrefixOf_cons_cons]; simp; intro e; exact absurd e.symm hc), if_pos ih]
theorem index_jn (l t : List UInt8) (h : ∀ c ∈ l, c ≠ 13) : Lib.index (l ++ 13 :: 10 :: t) [13, 10] = (l.length : Int) := by
  have h0 : Lib.index (13 :: 10 :: t) [13, 10] = ((0 : Nat) : Int) := by rw [index_cons, if_pos (by simp)]; rfl
  have := index_skip h0 l h
  rw [Nat.add_zero] at this; exact this
theorem splitK_jn : ∀ (r : List (List UInt8)) (l : List UInt8) (k : Nat), (∀ x ∈ l :: r, clr x) → r.length ≤ k → Lib.splitK [13, 10] 0 k (jn (l :: r)) = l :: r
  | [], l, k, h, _ => by
    show Lib.splitK [13, 10] 0 k l = [l]
    cases k with
    | zero => rfl
    | succ k => rw [Lib.splitK, if_pos (by rw [index_none13 l (clr_ne (h l (by simp)))]; rfl)]
  | m :: r, l, 0, _, hk => by simp at hk
  | m :: r, l, k + 1, h, hk => by
    have hl := clr_ne (h l (by simp))
    have ih := splitK_jn r m k (fun x hx => h x (by simp at hx ⊢; right; exact hx)) (by simpa using hk)
    rw [jn, Lib.splitK, index_jn l _ hl, if_neg (by rw [beq_iff_eq]; omega)]
    have e1 : (l ++ 13 :: 10 :: jn (m :: r)).take (((l.length : Int)).toNat + 0) = l := by
      rw [show ((l.length : Int)).toNat + 0 = l.length from rfl, List.take_left']; rfl
    have e2 : (l ++ 13 :: 10 :: jn (m :: r)).drop (((l.length : Int)).toNat + ([13, 10] : List UInt8).length) = jn (m :: r) := by
      rw [show ((l.length : Int)).toNat + ([13, 10] : List UInt8).length = l.length + 2 from rfl, ← List.drop_drop, List.drop_left']
      rfl
      rfl
    rw [e1, e2, ih]
theorem count_jn : ∀ (r : List (List UInt8)) (l : List UInt8), (∀ x ∈ l :: r, clr x) → Lib.count (jn (l :: r)) [13, 10] = r.length
  | [], l, h => Lib.count_miss (index_none13 l (clr_ne (h l (by simp))))
  | m :: r, l, h => by
    have hl := clr_ne (h l (by simp))
    have ih := count_jn r m (fun x hx => h x (by simp at hx ⊢; right; exact hx))
    rw [jn, Lib.count_hit (i := l.length) (by simp) (index_jn l _ hl)]
    rw [show l.length + ([13, 10] : List UInt8).length = l.length + 2 from rfl, ← List.drop_drop, List.drop_left' rfl]
    show 1 + Lib.count (jn (m :: r)) [13, 10] = _
    rw [ih, List.length_cons]; omega
theorem spl_jn {l : List UInt8} {r : List (List UInt8)} (h : ∀ x ∈ l :: r, clr x) : spl (jn (l :: r)) = l :: r := by
  unfold spl; rw [count_jn r l h]; exact splitK_jn r l _ h (Nat.le_refl _)
theorem strR_line : ∀ (l t : List UInt8), clr l → strR false (l ++ t) = strR false t
  | [], _, _ => rfl
  | c :: l, t, h => by
    have hc := h c (by simp)
    rw [List.cons_append, strR_go hc.1 hc.2.1, decide_eq_false hc.2.2, strR_line l t (fun x hx => h x (by simp [hx]))]
theorem strR_end (t : List UInt8) : strR false (13 :: 10 :: t) = strR false t := by
  rw [strR_go (by decide) (by decide), show decide ((13 : UInt8).toNat = 13) = true from rfl, strR_lf (by decide)]; rfl
theorem strB_txt : ∀ (Ls : List (List UInt8)) (t : List UInt8), (∀ x ∈ Ls, clr x) → strR false (txt Ls ++ t) = strR false t
  | [], _, _ => rfl
  | l :: r, t, h => by
    rw [txt_cons, List.append_assoc, strR_line l _ (h l (by simp))]
    show strR false (13 :: 10 :: (txt r ++ t)) = _
    rw [strR_end, strB_txt r t (fun x hx => h x (by simp [hx]))]
/-- The lines of a text whose lines are written. -/
theorem lines_txt {l : List UInt8} {r : List (List UInt8)} (rest : List UInt8) (h : ∀ x ∈ l :: r, x ≠ [] ∧ clr x) (h8 : (txt (l :: r)).length + 2 ≤ 8192) (h64 : r.length ≤ 64) :
    lnE (txt (l :: r) ++ 13 :: 10 :: rest) = 0 ∧ lnL (txt (l :: r) ++ 13 :: 10 :: rest) = l :: r ∧ endF (txt (l :: r) ++ 13 :: 10 :: rest) = (((txt (l :: r)).length + 2 : Nat) : Int) := by
  have he := endF_txt rest h
  have hj := txt_jn (Ls := l :: r) (by simp)
  have hlen : (txt (l :: r)).length = (jn (l :: r)).length + 2 := by rw [hj, List.length_append]; rfl
  have hL : lnL (txt (l :: r) ++ 13 :: 10 :: rest) = l :: r := by
    unfold lnL
    rw [he, show (((txt (l :: r)).length + 2 : Nat) : Int).toNat - 4 = (jn (l :: r)).length by omega, hj, List.append_assoc, List.take_left' rfl]
    exact spl_jn (fun x hx => (h x hx).2)
  refine ⟨?_, hL, he⟩
  unfold lnE
  have hl1 : 1 ≤ l.length := by
    have := (h l (by simp)).1
    cases l with
    | nil => exact absurd rfl this
    | cons a b => simp
  have h2 : 3 ≤ (txt (l :: r)).length := by rw [txt_cons, List.length_append, List.length_cons, List.length_cons]; omega
  have hs : strB ((txt (l :: r) ++ 13 :: 10 :: rest).take ((((txt (l :: r)).length + 2 : Nat) : Int).toNat)) = true := by
    rw [show (((txt (l :: r)).length + 2 : Nat) : Int).toNat = (txt (l :: r)).length + 2 from rfl, List.take_length_add_append]
    unfold strB
    rw [strB_txt _ _ (fun x hx => (h x hx).2)]
    show strR false [13, 10] = true
    rw [strR_end]; rfl
  rw [hL, he, if_neg (by omega), if_neg (by omega), if_neg (by omega), if_neg (by rw [List.length_cons]; omega), hs]
  rfl
end Hd
end Go.Proofs.YtjffffpfejmoiaaGreatDoor
/-
  Layer 5: a response that is written is read back: the plain law.
-/
namespace Go.Proofs.YtjffffpfejmoiaaGreatDoor
open Go.RowKit Syn Fr Hd Ck

namespace Hd
def ftx (p : List UInt8 × List UInt8) : List UInt8 := p.1 ++ 58 :: 32 :: p.2
theorem ln_ftx (p : List UInt8 × List UInt8) : ln p = ftx p ++ [13, 10] := by unfold ln ftx; simp
theorem lns_txt (l : List (List UInt8 × List UInt8)) : lns l = txt (l.map ftx) := by
  unfold lns txt
  rw [List.flatMap_map]
  congr 1
  funext p
  exact ln_ftx p
theorem head_txt (st : List UInt8) (l : List (List UInt8 × List UInt8)) (rest : List UInt8) : headB st l ++ rest = txt (st :: l.map ftx) ++ 13 :: 10 :: rest := by
  unfold headB
  rw [txt_cons, ← lns_txt]; simp
theorem head_len (st : List UInt8) (l : List (List UInt8 × List UInt8)) : (headB st l).length = (txt (st :: l.map ftx)).length + 2 := by
  have := congrArg List.length (head_txt st l [])
  rw [List.append_nil, List.length_append] at this
  exact this
/-- A field as it is read. -/
def okR (p : List UInt8 × List UInt8) : Prop := nmE p.1 = 0 ∧ nmV p.1 = p.1 ∧ vlE p.2 = 0 ∧ vlV p.2 = p.2
theorem tok_byte {x : List UInt8} (h : isTok x = true) : ∀ c ∈ x, c ≠ 32 ∧ c ≠ 9 := fun c hc => by
  unfold isTok at h
  rw [Bool.and_eq_true, List.all_eq_true] at h
  have := h.1 c hc
  constructor
  · intro e; rw [e] at this; exact absurd this (by decide)
  · intro e; rw [e] at this; exact absurd this (by decide)
theorem okR_can {l : List (List UInt8 × List UInt8)} (h : okCs l = true) : ∀ p ∈ can l, okR p := by
  intro p hp
  obtain ⟨q, hq, rfl⟩ := List.mem_map.1 hp
  obtain ⟨h1, h2, h3⟩ := (okC_iff q.1 q.2).1 (List.all_eq_true.1 h q hq)
  obtain ⟨h4, h5⟩ := nmE_lower h1
  exact ⟨h4, h5, h2, h3⟩
theorem ftx_line {p : List UInt8 × List UInt8} (h : okR p) : ftx p ≠ [] ∧ clr (ftx p) := by
  obtain ⟨h1, -, h3, -⟩ := h
  refine ⟨by unfold ftx; simp, fun c hc => ?_⟩
  unfold ftx at hc
  rw [List.mem_append, List.mem_cons, List.mem_cons] at hc
  rcases hc with hc | rfl | rfl | hc
  · exact cln_byte (tok_clean (nmE_tok h1).1) c hc
  · decide
  · decide
  · exact cln_byte (vlE_cln h3).1 c hc
theorem hd_ftx {p : List UInt8 × List UInt8} (h : okR p) : hdE (ftx p) = 0 ∧ hdV (ftx p) = p := by
  obtain ⟨n, v⟩ := p
  obtain ⟨h1, h2, h3, h4⟩ := h
  simp only at h1 h2 h3 h4
  obtain ⟨ht, -, -⟩ := nmE_tok h1
  obtain ⟨e1, e2⟩ := take58 n (32 :: v) (tok58 ht)
  have hne : n ≠ [] := by rintro rfl; exact absurd ht (by decide)
  have eN : hdN (ftx (n, v)) = n := e1
  have eR : hdR (ftx (n, v)) = 32 :: v := by unfold hdR ftx; rw [e2]; rfl
  have eE : ((ftx (n, v)).dropWhile (· != 58)).isEmpty = false := by
    show ((n ++ 58 :: 32 :: v).dropWhile (· != 58)).isEmpty = false
    rw [e2]; rfl
  have hf : ∀ k : UInt8, k = 32 ∨ k = 9 → fst k (ftx (n, v)) = false := fun k hk => by
    cases n with
    | nil => exact absurd rfl hne
    | cons c r =>
      have hb := tok_byte ht c (by simp)
      unfold fst ftx
      show decide (c = k) = false
      rw [decide_eq_false_iff_not]
      rcases hk with rfl | rfl
      · exact hb.1
      · exact hb.2
  have hbl : n.any Syn.blank = false := by
    rw [List.any_eq_false]
    intro c hc
    have hb := tok_byte ht c hc
    unfold Syn.blank
    simp [hb.1, hb.2]
  obtain ⟨v1, v2⟩ := vlE_sp h3
  have hE : hdE (ftx (n, v)) = 0 := by
    unfold hdE
    rw [if_neg (by rw [hf 32 (.inl rfl), hf 9 (.inr rfl)]; simp), if_neg (by rw [eE, eN]; simp [hne]), eN, if_neg (by rw [hbl]; decide), if_neg (fun h => h h1), eR, if_neg (fun h => h v1)]
  refine ⟨hE, ?_⟩
  unfold hdV
  rw [if_pos hE, eN, eR, h2, v2, h4]
theorem hds_ftx : ∀ {l : List (List UInt8 × List UInt8)}, (∀ p ∈ l, okR p) → hdsE (l.map ftx) = 0 ∧ (l.map ftx).map hdV = l
  | [], _ => ⟨rfl, rfl⟩
  | p :: r, h => by
    obtain ⟨h1, h2⟩ := hd_ftx (h p (by simp))
    obtain ⟨h3, h4⟩ := hds_ftx (l := r) (fun q hq => h q (by simp [hq]))
    constructor
    · rw [List.map_cons, hdsE, if_pos h1, h3]
    · rw [List.map_cons, List.map_cons, h2, h4]
theorem take32 : ∀ (x y : List UInt8), (∀ c ∈ x, c ≠ 32) → (x ++ 32 :: y).takeWhile (· != 32) = x ∧ (x ++ 32 :: y).dropWhile (· != 32) = 32 :: y
  | [], y, _ => ⟨rfl, rfl⟩
  | c :: x, y, h => by
    have hc := h c (by simp)
    obtain ⟨h1, h2⟩ := take32 x y (fun d hd => h d (by simp [hd]))
    rw [List.cons_append, List.takeWhile_cons, List.dropWhile_cons, if_pos (by simpa using hc), if_pos (by simpa using hc), h1, h2]
    exact ⟨rfl, rfl⟩
theorem rsn_cln (s : Int) : cln (rsn s) = true := by
  unfold rsn lk
  have h : ∀ p ∈ phr, cln p.2 = true := by decide
  cases hx : phr.find? (fun p => decide ((p.1 : Int) = s)) with
  | none => rfl
  | some p => exact h p (List.mem_of_find?_eq_some hx)
theorem dg3_at {n : Nat} (h : n ≤ 999) : (dg3 n).all dgt = true ∧ dval (dg3 n) = n ∧ ∀ c ∈ dg3 n, c ≠ 32 ∧ c.toNat ≠ 0 ∧ c.toNat ≠ 10 ∧ c.toNat ≠ 13 := by
  have e1 : (UInt8.ofNat (48 + n / 100)).toNat = 48 + n / 100 := by rw [UInt8.toNat_ofNat']; omega
  have e2 : (UInt8.ofNat (48 + n / 10 % 10)).toNat = 48 + n / 10 % 10 := by rw [UInt8.toNat_ofNat']; omega
  have e3 : (UInt8.ofNat (48 + n % 10)).toNat = 48 + n % 10 := by rw [UInt8.toNat_ofNat']; omega
  refine ⟨?_, ?_, ?_⟩
  · unfold dg3 dgt
    simp only [List.all_cons, List.all_nil, e1, e2, e3, Bool.and_true, Bool.and_eq_true, decide_eq_true_eq]
    omega
  · unfold dval dg3
    simp only [List.foldl_cons, List.foldl_nil, e1, e2, e3]
    omega
  · have key : ∀ c : UInt8, 48 ≤ c.toNat → c ≠ 32 ∧ c.toNat ≠ 0 ∧ c.toNat ≠ 10 ∧ c.toNat ≠ 13 := fun c hc => ⟨fun e => by rw [e] at hc; exact absurd hc (by decide), by omega, by omega, by omega⟩
    intro c hc
    unfold dg3 at hc
    simp only [List.mem_cons, List.not_mem_nil, or_false] at hc
    rcases hc with rfl | rfl | rfl
    · exact key _ (by rw [e1]; omega)
    · exact key _ (by rw [e2]; omega)
    · exact key _ (by rw [e3]; omega)
theorem startB_eq (n : Nat) : startB (n : Int) = verB ++ 32 :: (dg3 n ++ 32 :: rsn (n : Int)) := by
  unfold startB httpV verB
  simp
theorem start_back {n : Nat} (h1 : 100 ≤ n) (h2 : n ≤ 599) : stD (startB (n : Int)) = verB ∧ stB (stR (startB (n : Int))) = true ∧ stV (stR (startB (n : Int))) = (n : Int) ∧ startB (n : Int) ≠ [] ∧ clr (startB (n : Int)) := by
  obtain ⟨d1, d2, d3⟩ := dg3_at (n := n) (by omega)
  obtain ⟨a1, a2⟩ := take32 verB (dg3 n ++ 32 :: rsn (n : Int)) (by decide)
  obtain ⟨b1, b2⟩ := take32 (dg3 n) (rsn (n : Int)) (fun c hc => (d3 c hc).1)
  have eR : stR (startB (n : Int)) = dg3 n ++ 32 :: rsn (n : Int) := by unfold stR; rw [startB_eq, a2]; rfl
  have eD : stD (dg3 n ++ 32 :: rsn (n : Int)) = dg3 n := b1
  have eS : stR (dg3 n ++ 32 :: rsn (n : Int)) = rsn (n : Int) := by unfold stR; rw [b2]; rfl
  refine ⟨by unfold stD; rw [startB_eq, a1], ?_, ?_, by rw [startB_eq]; simp [verB], ?_⟩
  · rw [eR]
    unfold stB
    rw [eD, eS, d1, d2, rsn_cln, decide_eq_true h1, decide_eq_true h2]; rfl
  · rw [eR]
    unfold stV
    rw [eD, d2]
  · intro c hc
    rw [startB_eq, List.mem_append, List.mem_cons, List.mem_append, List.mem_cons] at hc
    rcases hc with hc | rfl | hc | rfl | hc
    · have : ∀ c ∈ verB, c.toNat ≠ 0 ∧ c.toNat ≠ 10 ∧ c.toNat ≠ 13 := by decide
      exact this c hc
    · decide
    · exact (d3 c hc).2
    · decide
    · exact cln_byte (rsn_cln _) c hc
/-- What is written is read. -/
theorem resp_back {s : Int} {l : List (List UInt8 × List UInt8)} (rest : List UInt8) (h : wrE s l = 0) :
    rrE (wrB s l ++ rest) = 0 ∧ rrS (wrB s l ++ rest) = s ∧ rrL (wrB s l ++ rest) = can l ∧ endF (wrB s l ++ rest) = ((wrB s l).length : Int) := by
  have hB : wrB s l = headB (startB s) (can l) := by unfold wrB; rw [if_pos h]
  have hw := h
  unfold wrE at hw
  have hlg : largeB (13 + (rsn s).length) l = false := by
    cases hh : largeB (13 + (rsn s).length) l with
    | false => rfl
    | true => rw [if_pos hh] at hw; cases hw
  rw [if_neg (by rw [hlg]; decide)] at hw
  have hr : 100 ≤ s ∧ s ≤ 599 := by
    by_cases hh : s < 100 ∨ 599 < s
    · rw [if_pos hh] at hw; cases hw
    · omega
  rw [if_neg (by omega)] at hw
  have hok : okCs l = true := by
    cases hh : okCs l with
    | true => rfl
    | false => rw [if_neg (by rw [hh]; decide)] at hw; cases hw
  obtain ⟨n, rfl⟩ : ∃ n : Nat, s = (n : Int) := ⟨s.toNat, by omega⟩
  obtain ⟨s1, s2, s3, s4, s5⟩ := start_back (n := n) (by omega) (by omega)
  have hO := okR_can hok
  have hlines : ∀ x ∈ startB (n : Int) :: (can l).map ftx, x ≠ [] ∧ clr x := by
    intro x hx
    rcases List.mem_cons.1 hx with rfl | hx
    · exact ⟨s4, s5⟩
    · obtain ⟨p, hp, rfl⟩ := List.mem_map.1 hx
      exact ftx_line (hO p hp)
  unfold largeB at hlg
  rw [Bool.or_eq_false_iff, decide_eq_false_iff_not, decide_eq_false_iff_not] at hlg
  have hcl : (can l).length = l.length := List.length_map ..
  have hlen : (headB (startB (n : Int)) (can l)).length = 13 + (rsn (n : Int)).length + 2 + ((lns l).length + 2) := by
    have e1 : (startB (n : Int)).length = 13 + (rsn (n : Int)).length := by
      unfold startB
      rw [List.length_append, List.length_append, List.length_append]
      rfl
    have e2 : (lns (can l)).length = (lns l).length := by rw [← lnsR_ok l hok, lnsR_len]
    unfold headB
    rw [List.length_append, List.length_append, List.length_append, e1, e2]
    rfl
  obtain ⟨t1, t2, t3⟩ := lines_txt rest hlines (by rw [← head_len, hlen]; omega) (by rw [List.length_map, hcl]; omega)
  obtain ⟨f1, f2⟩ := hds_ftx hO
  rw [hB, head_txt]
  refine ⟨?_, ?_, ?_, ?_⟩
  · unfold rrE
    rw [if_pos t1, t2, rrX_cons, if_pos s1, if_neg (by rw [s2]; decide), f1]
  · unfold rrS
    rw [t2]; exact s3
  · unfold rrL
    rw [t2]; exact f2
  · rw [t3, head_len]
end Hd
end Go.Proofs.YtjffffpfejmoiaaGreatDoor
/-
  Layer 5: WriteRequest.
-/
namespace Go.Proofs.YtjffffpfejmoiaaGreatDoor
open Go.RowKit Syn Fr Hd Ck

namespace Hd
/-- The error of a request that is written. -/
def wqE (m t : List UInt8) (l : List (List UInt8 × List UInt8)) : Int :=
  if largeB (m.length + t.length + 10) l = true then 5 else if mthB m = false then 26 else if tgtB m t = false then 27 else if okCs l = false then 25 else if hsX l = none then 29 else 0
def wqS (m t : List UInt8) : List UInt8 := m ++ [32] ++ t ++ [32] ++ [72, 84, 84, 80, 47, 49, 46, 49]
/-- Its canonical fields. -/
def wqL (l : List (List UInt8 × List UInt8)) : List (List UInt8 × List UInt8) := (can l).map (rep hostN ((hsX l).getD []))
/-- Its text. -/
def wqB (m t : List UInt8) (l : List (List UInt8 × List UInt8)) : List UInt8 := if wqE m t l = 0 then headB (wqS m t) (wqL l) else []
def WqR (w : World) (m t : List UInt8) (l : List (List UInt8 × List UInt8)) (e : Ending) (w' : World) : Prop :=
  ∃ o, e = .returned (.tuple #[o, errV (wqE m t l)]) ∧ OwnM w' w.heap.size o (wqB m t l) ∧ Below w.heap.size w w'
theorem WqR.bad {w w' : World} {m t : List UInt8} {l : List (List UInt8 × List UInt8)} {n : Int} (h : wqE m t l = n) (h0 : n ≠ 0) (hb : Below w.heap.size w w') : WqR w m t l (.returned (.tuple #[.slice none 0 0, .iface 57 (.int .i64 n)])) w' :=
  ⟨.slice none 0 0, by rw [h, herr_ne h0], by unfold wqB; rw [h, if_neg h0]; exact .inl ⟨rfl, rfl⟩, hb⟩
theorem WqR.good {w w' : World} {m t : List UInt8} {l : List (List UInt8 × List UInt8)} {o : Value} (h : wqE m t l = 0) (ho : OwnM w' w.heap.size o (headB (wqS m t) (wqL l))) (hb : Below w.heap.size w w') : WqR w m t l (.returned (.tuple #[o, .nilIface])) w' :=
  ⟨o, by rw [h]; rfl, by unfold wqB; rw [if_pos h]; exact ho, hb⟩
theorem allV_can : ∀ {l : List (List UInt8 × List UInt8)} (nm : List UInt8), okCs l = true → allV (can l) nm = allV l nm
  | [], _, _ => rfl
  | p :: r, nm, h => by
    unfold okCs at h
    rw [List.all_cons, Bool.and_eq_true] at h
    have h1 := ((okC_iff p.1 p.2).1 h.1).1
    have hv : nmV p.1 = Syn.lower p.1 := by unfold nmV; rw [if_pos h1]
    have := allV_can (l := r) nm h.2
    rw [show can (p :: r) = (nmV p.1, p.2) :: can r from rfl, allV_cons, allV_cons, this]
    show (if Syn.lower (nmV p.1) = _ then _ else _) = _
    rw [hv, lower_lower]
theorem hsX_can {l : List (List UInt8 × List UInt8)} (h : okCs l = true) : hsX (can l) = hsX l := by
  unfold hsX; rw [allV_can hostN h]
theorem rep_size {l : List (List UInt8 × List UInt8)} {M : Nat} {h : List UInt8} (hh : h.length ≤ M) (hM : 4 ≤ M) (hs : ∀ p ∈ l, p.1.length ≤ M ∧ p.2.length ≤ M) : ∀ p ∈ l.map (rep hostN h), p.1.length ≤ M ∧ p.2.length ≤ M := by
  intro p hp
  obtain ⟨q, hq, rfl⟩ := List.mem_map.1 hp
  unfold rep
  split
  · exact ⟨hM, hh⟩
  · exact hs q hq
theorem hsX_size {l : List (List UInt8 × List UInt8)} {M : Nat} {h : List UInt8} (hx : hsX l = some h) (hs : ∀ p ∈ l, p.1.length ≤ M ∧ p.2.length ≤ M) : h.length ≤ M := by
  unfold hsX at hx
  split at hx
  · next x he =>
    split at hx
    · cases hx
      obtain ⟨p, hp, rfl⟩ := allV_mem (show x ∈ allV l hostN by rw [he]; simp)
      rw [lower_length]
      exact (hs p hp).2
    · cases hx
  · cases hx
end Hd
set_option maxRecDepth 100000 in
set_option maxHeartbeats 16000000 in
theorem wreq_any (m t : List UInt8) (l : List (List UInt8 × List UInt8)) (v : Value) (w : World) (hmt : m.length + t.length ≤ 50000) (hR : Rd w 2 v l.length (prs l)) (hs : ∀ p ∈ l, p.1.length ≤ 1000000 ∧ p.2.length ≤ 1000000) (hm : l.length ≤ 1000) :
    Calls Tryz.prog 7 #[.agg #[.string (str m), .string (str t), v]] w (WqR w m t l) := by
  obtain ⟨A, cap, rfl, hcap, -, -⟩ := id hR
  have hK := Blk.new w 30 #[.string (str m), .string (str t), .slice A l.length cap]
  have hb0 := (Below.refl w.heap.size w).alloc (Nat.le_refl _) (.cells #[.string (str m), .string (str t), .slice A l.length cap] 30)
  have hLa := fun w' (hb : Below w.heap.size w w') => hlarge_any (m.length + t.length + 10) l (.slice A l.length cap) w' (by omega) (hR.below hb) hs hm
  have hCa := fun w' (hb : Below w.heap.size w w') => canonical_any l (.slice A l.length cap) w' (hR.below hb) hs hm
  have hMe := fun w' => method_any (str m) w' (by rw [str_size]; omega)
  have hTa := fun w' => target_any (str m) (str t) w' (by rw [str_size]; omega)
  rw [bs_str] at hMe
  rw [bs_str, bs_str] at hTa
  have hE : wqE m t l = if largeB (m.length + t.length + 10) l = true then 5 else if mthB m = false then 26 else if tgtB m t = false then 27 else if okCs l = false then 25 else if hsX l = none then 29 else 0 := rfl
  have e0 : str (wqS m t) = (((str m ++ ⟨#[32]⟩) ++ str t) ++ ⟨#[32]⟩) ++ ⟨#[72, 84, 84, 80, 47, 49, 46, 49]⟩ := by
    unfold wqS; rw [← str_append, ← str_append, ← str_append, ← str_append]; rfl
  have hsl : (wqS m t).length = m.length + t.length + 10 := by unfold wqS; simp only [List.length_append, List.length_cons, List.length_nil]; omega
  have z1 : (str m).size = m.length := str_size _
  have z2 : (str t).size = t.length := str_size _
  have q1 : (str m ++ (⟨#[32]⟩ : ByteArray)).size = m.length + 1 := by rw [ByteArray.size_append, z1]; rfl
  have q2 : (str m ++ (⟨#[32]⟩ : ByteArray) ++ str t).size = m.length + 1 + t.length := by rw [ByteArray.size_append, q1, z2]
  have q3 : (str m ++ (⟨#[32]⟩ : ByteArray) ++ str t ++ ⟨#[32]⟩).size = m.length + 1 + t.length + 1 := by rw [ByteArray.size_append, q2]; rfl
  have q4 : (str m ++ (⟨#[32]⟩ : ByteArray) ++ str t ++ ⟨#[32]⟩ ++ ⟨#[72, 84, 84, 80, 47, 49, 46, 49]⟩).size = m.length + t.length + 10 := by rw [ByteArray.size_append, q3]; show _ + 8 = _; omega
  obtain ⟨big, hbig⟩ : ∃ b, largeB (m.length + t.length + 10) l = b := ⟨_, rfl⟩
  rw [hbig] at hE
  simp only [hbig] at hLa
  rw [show ((m.length + t.length + 10 : Nat) : Int) = (m.length : Int) + (t.length : Int) + 10 by omega] at hLa
  replace hbig := Lib.hid hbig
  replace hR := Lib.hid hR
  replace hLa := Lib.hid hLa
  replace hCa := Lib.hid hCa
  replace hMe := Lib.hid hMe
  replace hTa := Lib.hid hTa
  replace hK := Lib.hid hK
  have hc0 := hK.out.cell 0
  have hc1 := hK.out.cell 1
  have hc2 := hK.out.cell 2
  replace hb0 := Lib.hid hb0
  have hHo := Lib.hid (fun (w' : World) v (h : Rd w' 2 v (can l).length (prs (can l))) => hosted_any (can l) v w' (can_size hs) (by unfold can; rw [List.length_map]; exact hm) h)
  have hWt := Lib.hid (fun (h : List UInt8) (hx : hsX l = some h) (w' : World) v (hr : Rd w' 2 v ((can l).map (rep hostN h)).length (prs ((can l).map (rep hostN h)))) => written_any (wqS m t) ((can l).map (rep hostN h)) v w' (by omega) hr (rep_size (hsX_size hx hs) (by omega) (can_size hs)) (by unfold can; rw [List.length_map, List.length_map]; exact hm))
  rw [e0] at hWt
  replace hsl := Lib.hid hsl
  replace e0 := Lib.hid e0
  cases big with
  | true =>
    replace hE := Lib.hid (hE.trans (if_pos rfl))
    generalize str m = sm at *
    generalize str t = sd at *
    go_enter Tryz.func7, Tryz.ntmps7
    go_wp2_with fail
    refine (hLa.out _ hb0.out).mono ?_
    rintro e w2 ⟨rfl, hb2⟩
    have hB2 := Lib.hid (Below.next hb0.out hb0.out.size hb2)
    have hK2 := hK.out.below hb2
    have c20 := hK2.cell 0
    have c21 := hK2.cell 1
    have c22 := hK2.cell 2
    replace hK2 := Lib.hid hK2
    clear hb2
    go_wp2
    go_ret2
    exact WqR.bad hE.out (by decide) hB2.out
  | false =>
   rw [if_neg (by simp)] at hE
   cases k1 : mthB m with
   | false =>
    replace hE := Lib.hid (hE.trans (if_pos k1))
    rw [k1] at hMe
    replace k1 := Lib.hid k1
    generalize str m = sm at *
    generalize str t = sd at *
    go_enter Tryz.func7, Tryz.ntmps7
    go_wp2_with fail
    refine (hLa.out _ hb0.out).mono ?_
    rintro e w2 ⟨rfl, hb2⟩
    have hB2 := Lib.hid (Below.next hb0.out hb0.out.size hb2)
    have hK2 := hK.out.below hb2
    have c20 := hK2.cell 0
    have c21 := hK2.cell 1
    have c22 := hK2.cell 2
    replace hK2 := Lib.hid hK2
    clear hb2
    go_wp2_with fail
    refine (hMe.out _).mono ?_
    rintro e w3 ⟨rfl, rfl⟩
    go_wp2
    go_ret2
    exact WqR.bad hE.out (by decide) hB2.out
   | true =>
    rw [if_neg (by rw [k1]; decide)] at hE
    rw [k1] at hMe
    replace k1 := Lib.hid k1
    cases k2 : tgtB m t with
    | false =>
     replace hE := Lib.hid (hE.trans (if_pos k2))
     rw [k2] at hTa
     replace k2 := Lib.hid k2
     generalize str m = sm at *
     generalize str t = sd at *
     go_enter Tryz.func7, Tryz.ntmps7
     go_wp2_with fail
     refine (hLa.out _ hb0.out).mono ?_
     rintro e w2 ⟨rfl, hb2⟩
     have hB2 := Lib.hid (Below.next hb0.out hb0.out.size hb2)
     have hK2 := hK.out.below hb2
     have c20 := hK2.cell 0
     have c21 := hK2.cell 1
     have c22 := hK2.cell 2
     replace hK2 := Lib.hid hK2
     clear hb2
     go_wp2_with fail
     refine (hMe.out _).mono ?_
     rintro e w3 ⟨rfl, rfl⟩
     go_wp2_with fail
     refine (hTa.out _).mono ?_
     rintro e w3 ⟨rfl, rfl⟩
     go_wp2
     go_ret2
     exact WqR.bad hE.out (by decide) hB2.out
    | true =>
     rw [if_neg (by rw [k2]; decide)] at hE
     rw [k2] at hTa
     replace k2 := Lib.hid k2
     generalize str m = sm at *
     generalize str t = sd at *
     cases k3 : okCs l with
     | false =>
      replace hE := Lib.hid (hE.trans (if_pos k3))
      replace k3 := Lib.hid k3
      go_enter Tryz.func7, Tryz.ntmps7
      go_wp2_with fail
      refine (hLa.out _ hb0.out).mono ?_
      rintro e w2 ⟨rfl, hb2⟩
      have hB2 := Lib.hid (Below.next hb0.out hb0.out.size hb2)
      have hK2 := hK.out.below hb2
      have c20 := hK2.cell 0
      have c21 := hK2.cell 1
      have c22 := hK2.cell 2
      replace hK2 := Lib.hid hK2
      clear hb2
      go_wp2_with fail
      refine (hMe.out _).mono ?_
      rintro e w3 ⟨rfl, rfl⟩
      go_wp2_with fail
      refine (hTa.out _).mono ?_
      rintro e w3 ⟨rfl, rfl⟩
      go_wp2_with fail
      refine (hCa.out _ hB2.out).mono ?_
      rintro e w3 h3
      obtain ⟨o3, rfl, hb3⟩ := CanR.no h3 (by rw [k3.out]; decide)
      have hB3 := Lib.hid (Below.next hB2.out hB2.out.size hb3)
      clear hb3 h3 c20 c21 c22
      go_wp2
      go_ret2
      exact WqR.bad hE.out (by decide) hB3.out
     | true =>
      rw [if_neg (by rw [k3]; decide)] at hE
      have hxc := hsX_can k3
      cases k4 : hsX l with
      | none =>
       replace hE := Lib.hid (hE.trans (if_pos k4))
       rw [k4] at hxc
       replace hxc := Lib.hid hxc
       replace k3 := Lib.hid k3
       replace k4 := Lib.hid k4
       go_enter Tryz.func7, Tryz.ntmps7
       go_wp2_with fail
       refine (hLa.out _ hb0.out).mono ?_
       rintro e w2 ⟨rfl, hb2⟩
       have hB2 := Lib.hid (Below.next hb0.out hb0.out.size hb2)
       have hK2 := hK.out.below hb2
       have c20 := hK2.cell 0
       have c21 := hK2.cell 1
       have c22 := hK2.cell 2
       replace hK2 := Lib.hid hK2
       clear hb2
       go_wp2_with fail
       refine (hMe.out _).mono ?_
       rintro e w3 ⟨rfl, rfl⟩
       go_wp2_with fail
       refine (hTa.out _).mono ?_
       rintro e w3 ⟨rfl, rfl⟩
       go_wp2_with fail
       refine (hCa.out _ hB2.out).mono ?_
       rintro e w3 h3
       obtain ⟨o3, rfl, ho3, hb3⟩ := CanR.yes h3 k3.out
       have hB3 := Lib.hid (Below.next hB2.out hB2.out.size hb3)
       have hr3 := Lib.hid (Rd.own ho3)
       clear hb3 h3 ho3 c20 c21 c22
       go_wp2_with fail
       refine (hHo.out _ _ hr3.out).mono ?_
       rintro e w4 ⟨h4, hb4⟩
       have hB4 := Lib.hid (Below.next hB3.out hB3.out.size hb4)
       obtain rfl : e = .returned (.tuple #[.slice none 0 0, .iface 57 (.int .i64 29)]) := by
         rcases h4 with ⟨-, h4⟩ | ⟨h, o, h4, -⟩
         · exact h4
         · rw [hxc.out] at h4; cases h4
       clear hb4 h4
       go_wp2
       go_ret2
       exact WqR.bad hE.out (by decide) hB4.out
      | some h =>
       rw [if_neg (by rw [k4]; exact fun h => by cases h)] at hE
       rw [k4] at hxc
       have hWt2 := Lib.hid (hWt.out h k4)
       have hwl : wqL l = (can l).map (rep hostN h) := by unfold wqL; rw [k4]; rfl
       replace hwl := Lib.hid hwl
       replace hE := Lib.hid hE
       replace hxc := Lib.hid hxc
       replace k3 := Lib.hid k3
       replace k4 := Lib.hid k4
       clear hWt
       go_enter Tryz.func7, Tryz.ntmps7
       go_wp2_with fail
       refine (hLa.out _ hb0.out).mono ?_
       rintro e w2 ⟨rfl, hb2⟩
       have hB2 := Lib.hid (Below.next hb0.out hb0.out.size hb2)
       have hK2 := hK.out.below hb2
       have c20 := hK2.cell 0
       have c21 := hK2.cell 1
       have c22 := hK2.cell 2
       replace hK2 := Lib.hid hK2
       clear hb2
       go_wp2_with fail
       refine (hMe.out _).mono ?_
       rintro e w3 ⟨rfl, rfl⟩
       go_wp2_with fail
       refine (hTa.out _).mono ?_
       rintro e w3 ⟨rfl, rfl⟩
       go_wp2_with fail
       refine (hCa.out _ hB2.out).mono ?_
       rintro e w3 h3
       obtain ⟨o3, rfl, ho3, hb3⟩ := CanR.yes h3 k3.out
       have hB3 := Lib.hid (Below.next hB2.out hB2.out.size hb3)
       have hr3 := Lib.hid (Rd.own ho3)
       clear hb3 h3 ho3 c20 c21 c22
       go_wp2_with fail
       refine (hHo.out _ _ hr3.out).mono ?_
       rintro e w4 ⟨h4, hb4⟩
       have hB4 := Lib.hid (Below.next hB3.out hB3.out.size hb4)
       obtain ⟨o4, rfl, ho4⟩ : ∃ o, e = .returned (.tuple #[o, .nilIface]) ∧ Own w4 w3.heap.size 26 2 o ((can l).map (rep hostN h)).length (prs ((can l).map (rep hostN h))) := by
         rcases h4 with ⟨h4, -⟩ | ⟨h', o, h4, h5, h6⟩
         · rw [hxc.out] at h4; cases h4
         · rw [hxc.out] at h4; cases h4; exact ⟨o, h5, h6⟩
       have hr4 := Lib.hid (Rd.own ho4)
       clear hb4 h4 ho4
       go_wp2_with fail
       refine (hWt2.out _ _ hr4.out).mono ?_
       rintro e w5 ⟨o5, rfl, ho5, hb5⟩
       have hB5 := Lib.hid (Below.next hB4.out hB4.out.size hb5)
       have ho6 := Lib.hid (ho5.base hB4.out.size)
       clear hb5 ho5
       go_wp2
       go_ret2
       exact WqR.good hE.out (by rw [hwl.out]; exact ho6.out) hB5.out
end Go.Proofs.YtjffffpfejmoiaaGreatDoor
/-
  Layer 5: the document's WriteRequest.
-/
namespace Go.Proofs.YtjffffpfejmoiaaGreatDoor
open Go.RowKit Syn Fr Hd Ck

namespace Hd
theorem hsX_val {l : List (List UInt8 × List UInt8)} {h : List UInt8} (hx : hsX l = some h) : ∃ x, allV l hostN = [x] ∧ h = Syn.lower x := by
  unfold hsX at hx
  split at hx
  · next x he =>
    split at hx
    · exact ⟨x, he, (Option.some.inj hx).symm⟩
    · cases hx
  · cases hx
theorem lnsR_host {l : List (List UInt8 × List UInt8)} {h : List UInt8} (hok : okCs l = true) (hx : hsX l = some h) : lnsR (l.map repR) = lns ((can l).map (rep hostN h)) := by
  obtain ⟨x, hv, rfl⟩ := hsX_val hx
  unfold lnsR lns can
  rw [List.map_map, List.flatMap_def, List.flatMap_def, List.map_map, List.map_map]
  congr 1
  refine List.map_congr_left fun p hp => ?_
  have h1 := ((okC_iff p.1 p.2).1 (List.all_eq_true.1 hok p hp)).1
  have hn : nmV p.1 = Syn.lower p.1 := by unfold nmV; rw [if_pos h1]
  have hr : nmR p.1 = Syn.lower p.1 := by unfold nmR; rw [if_pos h1, hn]
  show lnR (repR p) = ln (rep hostN (Syn.lower x) (nmV p.1, p.2))
  unfold repR rep
  show _ = ln (if Syn.lower (nmV p.1) = hostN then _ else _)
  rw [hn, lower_lower]
  by_cases he : Syn.lower p.1 = hostN
  · rw [if_pos he, if_pos he]
    obtain ⟨k, hk, rfl⟩ := List.mem_iff_getElem.1 hp
    have := allV_at hk he
    rw [hv, List.mem_singleton] at this
    show ln (nmR l[k].1, Syn.lower l[k].2) = _
    rw [hr, he, this]
  · rw [if_neg he, if_neg he]
    show ln (nmR p.1, p.2) = _
    rw [hr]
theorem repR_size {l : List (List UInt8 × List UInt8)} {M : Nat} (hs : ∀ p ∈ l, p.1.length ≤ M ∧ p.2.length ≤ M) : ∀ p ∈ l.map repR, p.1.length ≤ M ∧ p.2.length ≤ M := by
  intro p hp
  obtain ⟨q, hq, rfl⟩ := List.mem_map.1 hp
  unfold repR
  split
  · exact ⟨(hs q hq).1, by rw [lower_length]; exact (hs q hq).2⟩
  · exact hs q hq
theorem lnsR_repR (l : List (List UInt8 × List UInt8)) : (lnsR (l.map repR)).length = (lns l).length := by
  rw [lnsR_len]
  unfold lns
  rw [List.length_flatMap, List.length_flatMap, List.map_map]
  congr 1
  refine List.map_congr_left fun p _ => ?_
  show (ln (repR p)).length = _
  rw [ln_len, ln_len]
  unfold repR
  split
  · rw [lower_length]
  · rfl
end Hd
end Go.Proofs.YtjffffpfejmoiaaGreatDoor
/-
  Layer 5: a request that is written is read back: the plain law.
-/
namespace Go.Proofs.YtjffffpfejmoiaaGreatDoor
open Go.RowKit Syn Fr Hd Ck

namespace Hd
theorem sp_mem (k : UInt8) : ∀ (s : List UInt8), ∀ c ∈ s, c = k ∨ ∃ x ∈ sp k s, c ∈ x
  | [], c, h => by simp at h
  | y :: r, c, h => by
    unfold sp
    by_cases hy : y = k
    · rw [if_pos hy]
      rcases List.mem_cons.1 h with rfl | h
      · exact .inl hy
      · rcases sp_mem k r c h with e | ⟨x, hx, hc⟩
        · exact .inl e
        · exact .inr ⟨x, by simp [hx], hc⟩
    · rw [if_neg hy]
      cases hs : sp k r with
      | nil => exact absurd hs (sp_pos k r)
      | cons z zs =>
        rcases List.mem_cons.1 h with rfl | h
        · exact .inr ⟨c :: z, List.mem_cons_self .., List.mem_cons_self ..⟩
        · rcases sp_mem k r c h with e | ⟨x, hx, hc⟩
          · exact .inl e
          · rw [hs] at hx
            rcases List.mem_cons.1 hx with rfl | hx
            · exact .inr ⟨_, List.mem_cons_self .., List.mem_cons_of_mem _ hc⟩
            · exact .inr ⟨x, List.mem_cons_of_mem _ hx, hc⟩
theorem host_chars {s : List UInt8} (h : hostB s = true) : ∀ c ∈ s, 45 ≤ c.toNat ∧ c.toNat ≤ 122 := by
  intro c hc
  unfold hostB at h
  rw [Bool.and_eq_true, List.all_eq_true] at h
  rcases sp_mem 46 s c hc with rfl | ⟨x, hx, hcx⟩
  · decide
  · have h1 := h.2 x hx
    unfold labB at h1
    rw [Bool.and_eq_true, List.all_eq_true] at h1
    have h2 := h1.2 c hcx
    unfold hch aln dash at h2
    simp only [Bool.or_eq_true, Bool.and_eq_true, decide_eq_true_eq] at h2
    omega
theorem low_ne {c : UInt8} {k : UInt8} (hk : k.toNat < 65) : low c = k ↔ c = k := by
  by_cases hu : 65 ≤ c.toNat ∧ c.toNat ≤ 90
  · have h1 := low_up hu.1 hu.2
    constructor
    · intro e; rw [e] at h1; omega
    · intro e; rw [e] at hu; omega
  · rw [low_no (by omega)]
theorem hch_low (c : UInt8) : hch (low c) = hch c := by
  by_cases hu : 65 ≤ c.toNat ∧ c.toNat ≤ 90
  · have h1 := low_up hu.1 hu.2
    unfold hch aln dash
    rw [h1, Bool.eq_iff_iff]
    simp only [Bool.or_eq_true, Bool.and_eq_true, decide_eq_true_eq]
    omega
  · rw [low_no (by omega)]
theorem dash_low (c : UInt8) : dash (low c) = dash c := by
  by_cases hu : 65 ≤ c.toNat ∧ c.toNat ≤ 90
  · have h1 := low_up hu.1 hu.2
    unfold dash
    rw [h1, decide_eq_decide]
    omega
  · rw [low_no (by omega)]
theorem lab_low (x : List UInt8) : labB (Syn.lower x) = labB x := by
  unfold labB
  rw [lower_length]
  have h1 : (Syn.lower x).head?.any dash = x.head?.any dash := by
    cases x with
    | nil => rfl
    | cons a r => exact dash_low a
  have h2 : (Syn.lower x).getLast?.any dash = x.getLast?.any dash := by
    unfold Syn.lower
    rw [List.getLast?_map]
    cases x.getLast? with
    | none => rfl
    | some a => exact dash_low a
  have h3 : (Syn.lower x).all hch = x.all hch := by
    unfold Syn.lower
    rw [List.all_map]
    congr 1
    funext c
    exact hch_low c
  rw [h1, h2, h3]
theorem sp_low : ∀ s : List UInt8, sp 46 (Syn.lower s) = (sp 46 s).map Syn.lower
  | [] => rfl
  | y :: r => by
    have ih := sp_low r
    show sp 46 (low y :: Syn.lower r) = _
    unfold sp
    by_cases hy : y = 46
    · rw [if_pos hy, if_pos ((low_ne (by decide)).2 hy), ih]; rfl
    · rw [if_neg hy, if_neg (fun e => hy ((low_ne (by decide)).1 e)), ih]
      cases sp 46 r with
      | nil => rfl
      | cons z zs => rfl
theorem host_low {x : List UInt8} (h : hostB x = true) : hostB (Syn.lower x) = true := by
  unfold hostB at *
  rw [lower_length, sp_low, List.all_map]
  rw [Bool.and_eq_true] at *
  refine ⟨h.1, ?_⟩
  rw [List.all_eq_true] at *
  intro y hy
  show labB (Syn.lower y) = true
  rw [lab_low]; exact h.2 y hy
theorem drop_noblank : ∀ {x : List UInt8}, (∀ c ∈ x, Syn.blank c = false) → x.dropWhile Syn.blank = x
  | [], _ => rfl
  | c :: x, h => by rw [List.dropWhile_cons, if_neg (by rw [h c (by simp)]; decide)]
theorem trim_noblank {x : List UInt8} (h : ∀ c ∈ x, Syn.blank c = false) : trim x = x := by
  unfold trim trimL
  rw [drop_noblank h, drop_noblank (fun c hc => h c (by simpa using hc)), List.reverse_reverse]
theorem host_value {x : List UInt8} (h : hostB x = true) : vlE x = 0 ∧ vlV x = x := by
  have hc := host_chars h
  have hl : x.length ≤ 100 := by
    unfold hostB at h
    rw [Bool.and_eq_true, decide_eq_true_eq] at h
    exact h.1
  have h1 : cln x = true := by
    unfold cln
    rw [List.all_eq_true]
    intro c hcx
    have := hc c hcx
    unfold ctl ctlN
    simp
    omega
  have h2 : trim x = x := trim_noblank (fun c hcx => by
    have := hc c hcx
    unfold Syn.blank
    rw [Bool.or_eq_false_iff, beq_eq_false_iff_ne, beq_eq_false_iff_ne]
    constructor
    · intro e; rw [e] at this; exact absurd this.1 (by decide)
    · intro e; rw [e] at this; exact absurd this.1 (by decide))
  have hE : vlE x = 0 := by unfold vlE; rw [h1, if_pos rfl, h2, if_neg (by omega)]
  exact ⟨hE, by unfold vlV; rw [if_pos hE, h2]⟩
theorem hostN_ok : nmE hostN = 0 ∧ nmV hostN = hostN := by decide
/-- What is known of the canonical fields of a request that is written. -/
theorem wq_fields {l : List (List UInt8 × List UInt8)} {h : List UInt8} (hok : okCs l = true) (hx : hsX l = some h) :
    wqL l = (can l).map (rep hostN h) ∧ (∀ p ∈ wqL l, okR p) ∧ hsX (wqL l) = some h ∧ rqF (wqL l) = wqL l ∧ (lns (wqL l)).length = (lns l).length ∧ (wqL l).length = l.length := by
  obtain ⟨x, hv, rfl⟩ := hsX_val hx
  have hb : hostB x = true := by
    unfold hsX at hx
    rw [hv] at hx
    cases hh : hostB x with
    | true => rfl
    | false => simp [hh] at hx
  have hL : wqL l = (can l).map (rep hostN (Syn.lower x)) := by unfold wqL; rw [hx]; rfl
  have hv2 := host_value (host_low hb)
  have hO := okR_can hok
  have hF : ∀ p ∈ wqL l, okR p := by
    intro p hp
    rw [hL] at hp
    obtain ⟨q, hq, rfl⟩ := List.mem_map.1 hp
    unfold rep
    split
    · exact ⟨hostN_ok.1, hostN_ok.2, hv2.1, hv2.2⟩
    · exact hO q hq
  have hA : ∀ r : List (List UInt8 × List UInt8), allV (r.map (rep hostN (Syn.lower x))) hostN = (allV r hostN).map (fun _ => Syn.lower x) := by
    intro r
    induction r with
    | nil => rfl
    | cons p r ih =>
      rw [List.map_cons, allV_cons, allV_cons, ih, low_host]
      by_cases hp : Syn.lower p.1 = hostN
      · rw [if_pos hp, show rep hostN (Syn.lower x) p = (hostN, Syn.lower x) from if_pos hp, if_pos low_host]; rfl
      · rw [if_neg hp, show rep hostN (Syn.lower x) p = p from if_neg hp, if_neg hp]
  have hX : hsX (wqL l) = some (Syn.lower x) := by
    rw [hL]
    have := hA (can l)
    rw [allV_can hostN hok, hv] at this
    rw [hsX_good this (host_low hb), lower_lower]
  refine ⟨hL, hF, hX, ?_, ?_, ?_⟩
  · unfold rqF
    rw [hX, hL, List.map_map]
    refine List.map_congr_left fun p _ => ?_
    show rep hostN (Syn.lower x) (rep hostN (Syn.lower x) p) = rep hostN (Syn.lower x) p
    by_cases hp : Syn.lower p.1 = hostN
    · rw [show rep hostN (Syn.lower x) p = (hostN, Syn.lower x) from if_pos hp]; exact if_pos low_host
    · rw [show rep hostN (Syn.lower x) p = p from if_neg hp]; exact if_neg hp
  · rw [hL, ← lnsR_host hok hx, lnsR_repR]
  · rw [hL, List.length_map]; exact List.length_map ..
theorem line_back {m t : List UInt8} (hm : mthB m = true) (ht : tgtB m t = true) : rlM (wqS m t) = m ∧ rlT (wqS m t) = t ∧ rlV (wqS m t) = verB ∧ wqS m t ≠ [] ∧ clr (wqS m t) := by
  have hmc : ∀ c ∈ m, 65 ≤ c.toNat ∧ c.toNat ≤ 90 := by
    unfold mthB at hm
    rw [Bool.and_eq_true, List.all_eq_true] at hm
    intro c hc
    have := hm.1 c hc
    unfold upc at this
    simpa using this
  have htc : ∀ c ∈ t, 33 ≤ c.toNat ∧ c.toNat ≤ 126 := by
    unfold tgtB at ht
    rw [Bool.and_eq_true, Bool.and_eq_true, List.all_eq_true] at ht
    intro c hc
    have := ht.1.1 c hc
    unfold vis at this
    simpa using this
  have e : wqS m t = m ++ 32 :: (t ++ 32 :: verB) := by unfold wqS verB; simp
  obtain ⟨a1, a2⟩ := take32 m (t ++ 32 :: verB) (fun c hc e => by have := hmc c hc; rw [e] at this; exact absurd this.1 (by decide))
  obtain ⟨b1, b2⟩ := take32 t verB (fun c hc e => by have := htc c hc; rw [e] at this; exact absurd this.1 (by decide))
  have eR : stR (wqS m t) = t ++ 32 :: verB := by unfold stR; rw [e, a2]; rfl
  refine ⟨by unfold rlM stD; rw [e, a1], by unfold rlT stD; rw [eR, b1], by unfold rlV; rw [eR]; unfold stR; rw [b2]; rfl, by rw [e]; simp, fun c hc => ?_⟩
  rw [e, List.mem_append, List.mem_cons, List.mem_append, List.mem_cons] at hc
  rcases hc with hc | rfl | hc | rfl | hc
  · have := hmc c hc; omega
  · decide
  · have := htc c hc; omega
  · decide
  · have : ∀ c ∈ verB, c.toNat ≠ 0 ∧ c.toNat ≠ 10 ∧ c.toNat ≠ 13 := by decide
    exact this c hc
/-- What is written is read. -/
theorem req_back {m t : List UInt8} {l : List (List UInt8 × List UInt8)} (rest : List UInt8) (h : wqE m t l = 0) :
    rqE (wqB m t l ++ rest) = 0 ∧ rqM (wqB m t l ++ rest) = m ∧ rqT (wqB m t l ++ rest) = t ∧ rqL (wqB m t l ++ rest) = wqL l ∧ endF (wqB m t l ++ rest) = ((wqB m t l).length : Int) := by
  have hB : wqB m t l = headB (wqS m t) (wqL l) := by unfold wqB; rw [if_pos h]
  have hw := h
  unfold wqE at hw
  have hlg : largeB (m.length + t.length + 10) l = false := by
    cases hh : largeB (m.length + t.length + 10) l with
    | false => rfl
    | true => rw [if_pos hh] at hw; cases hw
  rw [if_neg (by rw [hlg]; decide)] at hw
  have hm : mthB m = true := by
    cases hh : mthB m with
    | true => rfl
    | false => rw [if_pos hh] at hw; cases hw
  rw [if_neg (by rw [hm]; decide)] at hw
  have ht : tgtB m t = true := by
    cases hh : tgtB m t with
    | true => rfl
    | false => rw [if_pos hh] at hw; cases hw
  rw [if_neg (by rw [ht]; decide)] at hw
  have hok : okCs l = true := by
    cases hh : okCs l with
    | true => rfl
    | false => rw [if_pos hh] at hw; cases hw
  rw [if_neg (by rw [hok]; decide)] at hw
  obtain ⟨hv, hx⟩ : ∃ h, hsX l = some h := by
    cases hh : hsX l with
    | none => rw [if_pos hh] at hw; cases hw
    | some h => exact ⟨h, rfl⟩
  obtain ⟨hL, hO, hX, hrq, hln, hle⟩ := wq_fields hok hx
  obtain ⟨s1, s2, s3, s4, s5⟩ := line_back hm ht
  have hlines : ∀ x ∈ wqS m t :: (wqL l).map ftx, x ≠ [] ∧ clr x := by
    intro x hx
    rcases List.mem_cons.1 hx with rfl | hx
    · exact ⟨s4, s5⟩
    · obtain ⟨p, hp, rfl⟩ := List.mem_map.1 hx
      exact ftx_line (hO p hp)
  unfold largeB at hlg
  rw [Bool.or_eq_false_iff, decide_eq_false_iff_not, decide_eq_false_iff_not] at hlg
  have hlen : (headB (wqS m t) (wqL l)).length = m.length + t.length + 10 + 2 + ((lns l).length + 2) := by
    have e1 : (wqS m t).length = m.length + t.length + 10 := by unfold wqS; simp only [List.length_append, List.length_cons, List.length_nil]; omega
    unfold headB
    rw [List.length_append, List.length_append, List.length_append, e1, hln]
    rfl
  obtain ⟨t1, t2, t3⟩ := lines_txt rest hlines (by rw [← head_len, hlen]; omega) (by rw [List.length_map, hle]; omega)
  obtain ⟨f1, f2⟩ := hds_ftx hO
  rw [hB, head_txt]
  refine ⟨?_, ?_, ?_, ?_, ?_⟩
  · unfold rqE
    rw [if_pos t1, t2, rqX_cons, s1, s2, if_neg (by rw [hm]; decide), if_neg (by rw [ht]; decide), if_pos s3, if_pos f1, f2, if_neg (by rw [hX]; exact fun h => by cases h)]
  · unfold rqM
    rw [t2]; exact s1
  · unfold rqT
    rw [t2]; exact s2
  · unfold rqL
    rw [t2]
    show rqF (((wqL l).map ftx).map hdV) = _
    rw [f2]; exact hrq
  · rw [t3, head_len]
end Hd
end Go.Proofs.YtjffffpfejmoiaaGreatDoor
/-
  Layer 5: prefixes of a head, and a byte more: the plain law.
-/
namespace Go.Proofs.YtjffffpfejmoiaaGreatDoor
open Go.RowKit Syn Fr Hd Ck

namespace Hd
theorem rqE_lnE {b : List UInt8} (h : lnE b ≠ 0) : rqE b = lnE b := by unfold rqE; rw [if_neg h]
theorem rqE_ok {b : List UInt8} (h : rqE b = 0) : lnE b = 0 := by
  by_cases h1 : lnE b = 0
  · exact h1
  · rw [rqE_lnE h1] at h; exact h
theorem lnE_ok {b : List UInt8} (h : lnE b = 0) : ∃ n : Nat, endF b = (n : Int) ∧ 4 ≤ n ∧ n ≤ b.length ∧ n ≤ 8192 ∧ strB (b.take n) = true := by
  unfold lnE at h
  split at h
  · cases h
  · split at h
    · cases h
    · next h1 h2 =>
      split at h
      · cases h
      · next h3 =>
        split at h
        · cases h
        · split at h
          · cases h
          · next h5 =>
            rcases endF_cases b with e | ⟨e, -⟩ | ⟨k, e, hk⟩
            · omega
            · exact absurd e h3
            · refine ⟨k + 4, e, by omega, hk, by omega, ?_⟩
              rw [e] at h5
              have : ((k + 4 : Nat) : Int).toNat = k + 4 := rfl
              rw [this] at h5
              cases hh : strB (b.take (k + 4)) with
              | true => rfl
              | false => exact absurd hh h5
/-- Does the end of a head stand at n? -/
def endAt (b : List UInt8) (n : Nat) : Prop := 4 ≤ n ∧ n ≤ b.length ∧ Lib.occAt b [13, 10, 13, 10] (n - 4) = true
theorem occ_take {b sub : List UInt8} {i n : Nat} (h : i + sub.length ≤ n) : Lib.occAt (b.take n) sub i = Lib.occAt b sub i := by
  unfold Lib.occAt
  rw [Bool.eq_iff_iff, List.isPrefixOf_iff_prefix, List.isPrefixOf_iff_prefix, List.prefix_iff_eq_take, List.prefix_iff_eq_take, List.drop_take, List.take_take, show min sub.length (n - i) = sub.length by omega]
theorem occ_len {b sub : List UInt8} {i : Nat} (h : Lib.occAt b sub i = true) (hs : 1 ≤ sub.length) : i + sub.length ≤ b.length := by
  unfold Lib.occAt at h
  have := (List.isPrefixOf_iff_prefix.1 h).length_le
  rw [List.length_drop] at this
  omega
/-- Two texts that are alike up to where the one ends. -/
theorem endF_same {b d : List UInt8} {n : Nat} (h : endF b = (n : Int)) (h2 : 3 ≤ n) (hl : n ≤ d.length) (he : d.take n = b.take n) : endF d = (n : Int) := by
  unfold endF at h ⊢
  split at h
  · omega
  · next hp =>
    have hp2 : ¬ Lib.hasPrefix d [13, 10] = true := fun hh => hp (by
      unfold Lib.hasPrefix at hh ⊢
      rw [List.isPrefixOf_iff_prefix, List.prefix_iff_eq_take] at hh ⊢
      have e := congrArg (List.take 2) he
      rw [List.take_take, List.take_take, show min 2 n = 2 by omega] at e
      exact hh.trans e)
    rw [if_neg hp2]
    split at h
    · omega
    · next hi =>
      rcases Lib.index_spec b [13, 10, 13, 10] with ⟨e, -⟩ | ⟨i, e, -, ho, hno⟩
      · omega
      · rw [e] at h
        have hin : i + 4 = n := by omega
        have key : ∀ j, j + 4 ≤ n → Lib.occAt d [13, 10, 13, 10] j = Lib.occAt b [13, 10, 13, 10] j := fun j hj => by
          have h1 := occ_take (b := d) (sub := [13, 10, 13, 10]) (i := j) (n := n) hj
          have h2 := occ_take (b := b) (sub := [13, 10, 13, 10]) (i := j) (n := n) hj
          rw [← h1, ← h2, he]
        have hd : Lib.index d [13, 10, 13, 10] = (i : Int) := Lib.index_first (by omega) (by rw [key i (by omega)]; exact ho) (fun j hj => by rw [key j (by omega)]; exact hno j hj)
        rw [hd, if_neg (by omega)]
        omega
/-- A proper prefix of a head has no end. -/
theorem endF_pre {b : List UInt8} {n i : Nat} (h : endF b = (n : Int)) (h4 : 4 ≤ n) (hi : i < n) : endF (b.take i) = -1 ∨ False := by
  left
  rcases endF_cases (b.take i) with e | ⟨e, h2⟩ | ⟨k, e, hk⟩
  · exact e
  · exfalso
    unfold endF at e h
    split at e
    · next hp =>
      have : Lib.hasPrefix b [13, 10] = true := by
        unfold Lib.hasPrefix at hp ⊢
        rw [List.isPrefixOf_iff_prefix] at hp ⊢
        exact hp.trans (List.take_prefix _ _)
      rw [if_pos this] at h
      omega
    · split at e
      · cases e
      · next h1 =>
        have := Lib.index_room (b.take i) [13, 10, 13, 10] (by omega)
        omega
  · exfalso
    rw [List.length_take] at hk
    have hb := endF_same e (by omega) (d := b) (by omega) (by rw [List.take_take, show min (k + 4) i = k + 4 by omega])
    omega
theorem pre_end {b : List UInt8} {i : Nat} (h : rqE b = 0) (hi : (i : Int) < endF b) : rqE (b.take i) = 21 := by
  obtain ⟨n, e, h4, hl, h8, -⟩ := lnE_ok (rqE_ok h)
  rw [e] at hi
  have he := (endF_pre (i := i) e h4 (by omega)).elim id False.elim
  have hL : lnE (b.take i) = 21 := by
    unfold lnE
    rw [he, if_pos ⟨by decide, by rw [List.length_take]; omega⟩]
  rw [rqE_lnE (by rw [hL]; decide), hL]
/-- Straightness, place by place. -/
theorem strR_at : ∀ (l : List UInt8) (cr : Bool), strR cr l = true → ∀ i c, l[i]? = some c → c.toNat ≠ 0 ∧ (c.toNat = 13 → ∃ d, l[i + 1]? = some d ∧ d.toNat = 10) ∧ (c.toNat = 10 → (i = 0 ∧ cr = true) ∨ ∃ j d, i = j + 1 ∧ l[j]? = some d ∧ d.toNat = 13)
  | [], _, _, i, c, hc => by simp at hc
  | x :: l, cr, h, i, c, hc => by
    rw [strR] at h
    by_cases h0 : x.toNat = 0
    · rw [if_pos h0] at h; cases h
    · rw [if_neg h0] at h
      by_cases h10 : x.toNat = 10
      · rw [if_pos h10, Bool.and_eq_true] at h
        cases i with
        | zero =>
          obtain rfl : x = c := by simpa using hc
          exact ⟨h0, fun e => by omega, fun _ => .inl ⟨rfl, h.1⟩⟩
        | succ i =>
          obtain ⟨a1, a2, a3⟩ := strR_at l false h.2 i c (by simpa using hc)
          refine ⟨a1, fun e => by simpa using a2 e, fun e => ?_⟩
          rcases a3 e with ⟨-, a4⟩ | ⟨j, d, rfl, a4, a5⟩
          · cases a4
          · exact .inr ⟨j + 1, d, rfl, by simpa using a4, a5⟩
      · rw [if_neg h10] at h
        by_cases hcr : cr = true
        · rw [if_pos hcr] at h; cases h
        · rw [if_neg hcr] at h
          cases i with
          | zero =>
            obtain rfl : x = c := by simpa using hc
            refine ⟨h0, fun e => ?_, fun e => absurd e h10⟩
            rw [e] at h
            cases l with
            | nil => cases h
            | cons d r =>
              refine ⟨d, by simp, ?_⟩
              by_cases hd : d.toNat = 10
              · exact hd
              · rw [show decide (13 = 13) = true from rfl, strR_cr hd] at h; cases h
          | succ i =>
            obtain ⟨a1, a2, a3⟩ := strR_at l _ h i c (by simpa using hc)
            refine ⟨a1, fun e => by simpa using a2 e, fun e => ?_⟩
            rcases a3 e with ⟨a4, a5⟩ | ⟨j, d, rfl, a4, a5⟩
            · subst a4
              rw [decide_eq_true_eq] at a5
              exact .inr ⟨0, x, rfl, rfl, a5⟩
            · exact .inr ⟨j + 1, d, rfl, by simpa using a4, a5⟩
/-- A byte more. -/
def ins (b : List UInt8) (n i : Nat) (c : UInt8) : List UInt8 := b.take i ++ [c] ++ (b.drop i).take (n - i)
theorem ins_lo {b : List UInt8} {n i j : Nat} {c : UInt8} (hi : i ≤ b.length) (hj : j < i) : (ins b n i c)[j]? = b[j]? := by
  unfold ins
  rw [List.append_assoc, List.getElem?_append_left (by rw [List.length_take]; omega), List.getElem?_take, if_pos hj]
theorem ins_at {b : List UInt8} {n i : Nat} {c : UInt8} (hi : i ≤ b.length) : (ins b n i c)[i]? = some c := by
  unfold ins
  have hl : (b.take i).length = i := by rw [List.length_take]; omega
  rw [List.append_assoc, List.getElem?_append_right (by omega), hl, Nat.sub_self]; rfl
theorem ins_hi {b : List UInt8} {n i : Nat} {c : UInt8} (hi : i < n) (hn : n ≤ b.length) : (ins b n i c)[i + 1]? = b[i]? := by
  unfold ins
  have hl : (b.take i).length = i := by rw [List.length_take]; omega
  rw [List.append_assoc, List.getElem?_append_right (by omega), hl, show i + 1 - i = 1 by omega]
  show ((b.drop i).take (n - i))[0]? = _
  rw [List.getElem?_take, if_pos (by omega), List.getElem?_drop, Nat.add_zero]
theorem ins_len {b : List UInt8} {n i : Nat} {c : UInt8} (hi : i < n) (hn : n ≤ b.length) : (ins b n i c).length = n + 1 := by
  unfold ins
  rw [List.length_append, List.length_append, List.length_take, List.length_take, List.length_drop, List.length_singleton]; omega
theorem ins_bad {b : List UInt8} {n i : Nat} {c : UInt8} (h : rqE b = 0) (hn : endF b = (n : Int)) (hi : i < n) (hc : c.toNat = 13 ∨ c.toNat = 10 ∨ c.toNat = 0) (hx : ¬ (c.toNat = 10 ∧ i = n - 1)) : rqE (ins b n i c) ≠ 0 := by
  intro hd
  obtain ⟨n0, e0, h4, hl, h8, hs⟩ := lnE_ok (rqE_ok h)
  obtain rfl : n0 = n := by omega
  obtain ⟨n1, e1, g4, gl, -, gs⟩ := lnE_ok (rqE_ok hd)
  have hlen := ins_len (c := c) hi hl
  by_cases hle : n1 ≤ i
  · have he : b.take n1 = (ins b n0 i c).take n1 := by
      unfold ins
      rw [List.append_assoc, List.take_append_of_le_length (by rw [List.length_take]; omega), List.take_take, show min n1 i = n1 by omega]
    have := endF_same (d := b) e1 (by omega) (by omega) he
    omega
  · have lo : ∀ j, j < i → ((ins b n0 i c).take n1)[j]? = b[j]? := fun j hj => by rw [List.getElem?_take, if_pos (by omega), ins_lo (by omega) hj]
    have at' : ((ins b n0 i c).take n1)[i]? = some c := by rw [List.getElem?_take, if_pos (by omega), ins_at (by omega)]
    have blo : ∀ j, j < n0 → (b.take n0)[j]? = b[j]? := fun j hj => by rw [List.getElem?_take, if_pos hj]
    have S := strR_at _ false gs
    have B := strR_at _ false hs
    obtain ⟨s1, s2, s3⟩ := S i c at'
    rcases hc with hc | hc | hc
    · obtain ⟨d, hd1, hd2⟩ := s2 hc
      have hb : b[i]? = some d := by
        by_cases hh : i + 1 < n1
        · rw [List.getElem?_take, if_pos hh, ins_hi hi hl] at hd1; exact hd1
        · rw [List.getElem?_take, if_neg hh] at hd1; cases hd1
      obtain ⟨-, -, b3⟩ := B i d (by rw [blo i hi]; exact hb)
      rcases b3 hd2 with ⟨-, hf⟩ | ⟨j, x, hj, hx1, hx2⟩
      · cases hf
      · subst hj
        rw [blo j (by omega)] at hx1
        obtain ⟨-, t2, -⟩ := S j x (by rw [lo j (by omega)]; exact hx1)
        obtain ⟨y, hy1, hy2⟩ := t2 hx2
        rw [at'] at hy1
        obtain rfl : c = y := Option.some.inj hy1
        omega
    · rcases s3 hc with ⟨-, hf⟩ | ⟨j, x, hj, hx1, hx2⟩
      · cases hf
      · subst hj
        rw [lo j (by omega)] at hx1
        obtain ⟨-, b2, -⟩ := B j x (by rw [blo j (by omega)]; exact hx1)
        obtain ⟨y, hy1, hy2⟩ := b2 hx2
        rw [blo (j + 1) hi] at hy1
        by_cases hh : j + 1 + 1 < n1
        · obtain ⟨-, -, t3⟩ := S (j + 1 + 1) y (by rw [List.getElem?_take, if_pos hh, ins_hi hi hl]; exact hy1)
          rcases t3 hy2 with ⟨hf, -⟩ | ⟨j2, z, hj2, hz1, hz2⟩
          · omega
          · obtain rfl : j2 = j + 1 := by omega
            rw [at'] at hz1
            obtain rfl : c = z := Option.some.inj hz1
            omega
        · obtain rfl : n1 = j + 1 + 1 := by omega
          have hcy : c = y := UInt8.toNat_inj.1 (by omega)
          subst hcy
          have he : b.take (j + 1 + 1) = (ins b n0 (j + 1) c).take (j + 1 + 1) := by
            unfold ins
            have hl2 : (b.take (j + 1)).length = j + 1 := by rw [List.length_take]; omega
            have e2 : (b.take (j + 1) ++ [c] ++ (b.drop (j + 1)).take (n0 - (j + 1))).take (j + 1 + 1) = b.take (j + 1) ++ [c] := List.take_left' (by rw [List.length_append, hl2]; rfl)
            have e3 : b.take (j + 1 + 1) = b.take (j + 1) ++ [c] := by rw [List.take_add_one, hy1]; rfl
            exact e3.trans e2.symm
          have := endF_same (d := b) e1 (by omega) (by omega) he
          exact hx ⟨hc, by omega⟩
    · exact s1 hc
end Hd
end Go.Proofs.YtjffffpfejmoiaaGreatDoor
/-
  Layer 5: a request that is read can be written: the plain law.
-/
namespace Go.Proofs.YtjffffpfejmoiaaGreatDoor
open Go.RowKit Syn Fr Hd Ck

namespace Hd
theorem drop_idem {α : Type} (p : α → Bool) : ∀ l : List α, (l.dropWhile p).dropWhile p = l.dropWhile p
  | [] => rfl
  | a :: l => by
    rw [List.dropWhile_cons]
    by_cases h : p a = true
    · rw [if_pos h]; exact drop_idem p l
    · rw [if_neg h, List.dropWhile_cons, if_neg h]
theorem drop_pre {α : Type} (p : α → Bool) {x y : List α} (hx : x.dropWhile p = x) (hp : y <+: x) : y.dropWhile p = y := by
  cases y with
  | nil => rfl
  | cons a r =>
    obtain ⟨t, rfl⟩ := hp
    rw [List.cons_append, List.dropWhile_cons] at hx
    by_cases h : p a = true
    · rw [if_pos h] at hx
      have h1 := congrArg List.length hx
      have h2 := (List.dropWhile_suffix (p := p) (l := r ++ t)).length_le
      rw [List.length_cons] at h1
      omega
    · rw [List.dropWhile_cons, if_neg h]
theorem trim_trim (l : List UInt8) : trim (trim l) = trim l := by
  have hL : (trimL l).dropWhile Syn.blank = trimL l := drop_idem _ _
  have hp : trim l <+: trimL l := by
    unfold trim
    have := List.dropWhile_suffix (p := Syn.blank) (l := (trimL l).reverse)
    have h2 := List.reverse_prefix.2 this
    rwa [List.reverse_reverse] at h2
  have h1 : trimL (trim l) = trim l := drop_pre _ hL hp
  show ((trimL (trim l)).reverse.dropWhile Syn.blank).reverse = trim l
  rw [h1]
  unfold trim
  rw [List.reverse_reverse, drop_idem]
theorem trim_mem {l : List UInt8} : ∀ c ∈ trim l, c ∈ l := by
  intro c hc
  unfold trim trimL at hc
  rw [List.mem_reverse] at hc
  have h1 := (List.dropWhile_suffix (p := Syn.blank) (l := (l.dropWhile Syn.blank).reverse)).subset hc
  rw [List.mem_reverse] at h1
  exact (List.dropWhile_suffix (p := Syn.blank) (l := l)).subset h1
theorem vl_trim {v : List UInt8} (h : vlE v = 0) : vlE (vlV v) = 0 ∧ vlV (vlV v) = vlV v := by
  obtain ⟨h1, h2, h3⟩ := vlE_cln h
  rw [h3]
  have hc : cln (trim v) = true := by
    unfold cln at *
    rw [List.all_eq_true] at *
    exact fun c hc => h1 c (trim_mem c hc)
  have hE : vlE (trim v) = 0 := by unfold vlE; rw [hc, if_pos rfl, trim_trim, if_neg (by omega)]
  exact ⟨hE, by unfold vlV; rw [if_pos hE, trim_trim]⟩
/-- A field that was read. -/
theorem hd_okR {l : List UInt8} (h : hdE l = 0) : okR (hdV l) ∧ (hdV l).1.length + (hdV l).2.length + 1 ≤ l.length := by
  have hV : hdV l = (nmV (hdN l), vlV (hdR l)) := by unfold hdV; rw [if_pos h]
  rw [hV]
  unfold hdE at h
  split at h
  · cases h
  · split at h
    · cases h
    · next h1 =>
      split at h
      · cases h
      · split at h
        · cases h
        · next h3 =>
          split at h
          · cases h
          · next h4 =>
            have h3' : nmE (hdN l) = 0 := Decidable.of_not_not h3
            have h4' : vlE (hdR l) = 0 := Decidable.of_not_not h4
            obtain ⟨a1, a2⟩ := nmE_lower h3'
            obtain ⟨b1, b2⟩ := vl_trim h4'
            refine ⟨⟨a1, a2, b1, b2⟩, ?_⟩
            have e1 : (nmV (hdN l)).length = (hdN l).length := by rw [(nmE_tok h3').2.2, lower_length]
            have e2 : (vlV (hdR l)).length ≤ (hdR l).length := by rw [(vlE_cln h4').2.2]; exact trim_le _
            have e3 : (hdN l).length + 1 + (hdR l).length = l.length := by
              have hne : (l.dropWhile (· != 58)) ≠ [] := fun e => h1 (.inl (by rw [e]; rfl))
              have e4 := congrArg List.length (List.takeWhile_append_dropWhile (p := (· != 58)) (l := l))
              rw [List.length_append] at e4
              unfold hdN hdR
              rw [List.length_drop]
              have : 1 ≤ (l.dropWhile (· != 58)).length := by
                cases hd : l.dropWhile (· != 58) with
                | nil => exact absurd hd hne
                | cons a b => simp
              omega
            show (nmV (hdN l)).length + (vlV (hdR l)).length + 1 ≤ _
            omega
theorem hds_all : ∀ {L : List (List UInt8)}, hdsE L = 0 → ∀ l ∈ L, hdE l = 0
  | [], _, l, h => by simp at h
  | x :: r, h, l, hl => by
    rw [hdsE] at h
    by_cases hx : hdE x = 0
    · rw [if_pos hx] at h
      rcases List.mem_cons.1 hl with rfl | hl
      · exact hx
      · exact hds_all h l hl
    · rw [if_neg hx] at h; exact absurd h hx
theorem splitK_sum : ∀ (k : Nat) (s : List UInt8), ((Lib.splitK [13, 10] 0 k s).map (fun l => l.length + 2)).sum = s.length + 2
  | 0, s => by rw [Lib.splitK]; simp
  | k + 1, s => by
    rw [Lib.splitK]
    split
    · simp
    · next h =>
      have h1 := Lib.index_spec s [13, 10]
      have h0 : 0 ≤ Lib.index s [13, 10] := by
        rcases h1 with ⟨e, -⟩ | ⟨i, e, -⟩
        · exact absurd (by rw [e]; rfl) h
        · omega
      have h2 := Lib.index_room s [13, 10] h0
      have h3 : ([13, 10] : List UInt8).length = 2 := rfl
      rw [h3] at h2 ⊢
      rw [List.map_cons, List.sum_cons, splitK_sum k, List.length_take, List.length_drop]
      omega
theorem sp32 {l : List UInt8} (h : stR l ≠ []) : (stD l).length + 1 + (stR l).length = l.length := by
  have e := congrArg List.length (List.takeWhile_append_dropWhile (p := (· != 32)) (l := l))
  rw [List.length_append] at e
  have h1 : 1 < (l.dropWhile (· != 32)).length := by
    have := List.length_pos_iff.2 h
    unfold stR at this
    rw [List.length_drop] at this
    omega
  unfold stD stR
  rw [List.length_drop]
  omega
theorem lns_hds : ∀ {L : List (List UInt8)}, (∀ l ∈ L, hdE l = 0) → (lns (L.map hdV)).length ≤ (L.map (fun l => l.length + 2)).sum + L.length
  | [], _ => Nat.zero_le _
  | x :: r, h => by
    have h1 := (hd_okR (h x (List.mem_cons_self ..))).2
    have h2 := lns_hds (L := r) (fun l hl => h l (List.mem_cons_of_mem _ hl))
    rw [List.map_cons, List.map_cons, List.sum_cons, List.length_cons]
    unfold lns at h2 ⊢
    rw [List.flatMap_cons, List.length_append]
    have : (ln (hdV x)).length = (hdV x).1.length + (hdV x).2.length + 4 := by unfold ln; simp; omega
    omega
theorem wqL_rqF {X : List (List UInt8 × List UInt8)} (h : can X = X) : wqL X = rqF X := by unfold wqL rqF; rw [h]
/-- What is read can be written, unless it grows. -/
theorem rq_read {s : List UInt8} (h : rqE s = 0) :
    ∃ n : Nat, endF s = (n : Int) ∧ 4 ≤ n ∧ n ≤ s.length ∧ n ≤ 8192 ∧ (wqE (rqM s) (rqT s) (rqL s) = 0 ∨ (wqE (rqM s) (rqT s) (rqL s) = 5 ∧ 8128 < n)) ∧ wqL (rqL s) = rqL s ∧ ((rqM s).length ≤ 16 ∧ (rqT s).length ≤ 2048 ∧ (rqL s).length ≤ 64 ∧ (lns (rqL s)).length ≤ 10000) := by
  have hl0 := rqE_ok h
  obtain ⟨n, e, h4, hl, h8, hst⟩ := lnE_ok hl0
  have hX : rqX (lnL s) = 0 := by unfold rqE at h; rw [if_pos hl0] at h; exact h
  obtain ⟨l0, r, hL⟩ := spl_ne (s.take ((endF s).toNat - 4))
  have hL' : lnL s = l0 :: r := hL
  have hfew := lnE_few hl0
  have hsum : ((lnL s).map (fun l => l.length + 2)).sum = n - 2 := by
    unfold lnL spl
    rw [splitK_sum, List.length_take, e]
    omega
  rw [hL'] at hX hsum hfew
  rw [rqX_cons] at hX
  have hm : mthB (rlM l0) = true := by
    cases hh : mthB (rlM l0) with
    | true => rfl
    | false => rw [if_pos hh] at hX; cases hX
  rw [if_neg (by rw [hm]; decide)] at hX
  have ht : tgtB (rlM l0) (rlT l0) = true := by
    cases hh : tgtB (rlM l0) (rlT l0) with
    | true => rfl
    | false => rw [if_pos hh] at hX; cases hX
  rw [if_neg (by rw [ht]; decide)] at hX
  have hv : rlV l0 = verB := by
    by_cases hh : rlV l0 = verB
    · exact hh
    · rw [if_neg hh] at hX; cases hX
  rw [if_pos hv] at hX
  have hr : hdsE r = 0 := by
    by_cases hh : hdsE r = 0
    · exact hh
    · rw [if_neg hh] at hX; exact hX
  rw [if_pos hr] at hX
  obtain ⟨hv', hx⟩ : ∃ h, hsX (r.map hdV) = some h := by
    cases hh : hsX (r.map hdV) with
    | none => rw [if_pos hh] at hX; cases hX
    | some h => exact ⟨h, rfl⟩
  have hall := hds_all hr
  have hO : ∀ p ∈ r.map hdV, okR p := by
    intro p hp
    obtain ⟨l, hl, rfl⟩ := List.mem_map.1 hp
    exact (hd_okR (hall l hl)).1
  have okOf : ∀ {F : List (List UInt8 × List UInt8)}, (∀ p ∈ F, okR p) → okCs F = true ∧ can F = F := by
    intro F hF
    refine ⟨?_, ?_⟩
    · unfold okCs
      rw [List.all_eq_true]
      exact fun p hp => (okC_iff p.1 p.2).2 ⟨(hF p hp).1, (hF p hp).2.2⟩
    · unfold can
      conv => rhs; rw [← List.map_id F]
      exact List.map_congr_left fun p hp => by rw [(hF p hp).2.1]; rfl
  obtain ⟨ok1, can1⟩ := okOf hO
  obtain ⟨w1, w2, w3, w4, w5, w6⟩ := wq_fields ok1 hx
  have hq : rqL s = wqL (r.map hdV) := by
    rw [w1, can1]
    unfold rqL rqF
    rw [hL']
    show (r.map hdV).map (rep hostN ((hsX (r.map hdV)).getD [])) = _
    rw [hx]; rfl
  obtain ⟨ok2, can2⟩ := okOf w2
  have hw : wqL (rqL s) = rqL s := by
    rw [hq, wqL_rqF can2]
    exact w4
  have eM : rqM s = rlM l0 := by unfold rqM; rw [hL']; rfl
  have eT : rqT s = rlT l0 := by unfold rqT; rw [hL']; rfl
  have z1 : (rlM l0).length ≤ 16 := by
    unfold mthB at hm
    rw [Bool.and_eq_true, Bool.and_eq_true, decide_eq_true_eq, decide_eq_true_eq] at hm
    exact hm.2.2
  have z2 : (rlT l0).length ≤ 2048 := by
    unfold tgtB at ht
    rw [Bool.and_eq_true, Bool.and_eq_true, Bool.and_eq_true, decide_eq_true_eq, decide_eq_true_eq] at ht
    exact ht.1.2.2
  have z3 : (lns (r.map hdV)).length ≤ 10000 := by
    have h5 := lns_hds hall
    rw [List.length_cons] at hfew
    rw [List.map_cons, List.sum_cons] at hsum
    omega
  refine ⟨n, e, h4, hl, h8, ?_, hw, by rw [eM]; exact z1, by rw [eT]; exact z2, by rw [hq, w6, List.length_map]; rw [List.length_cons] at hfew; omega, by rw [hq, w5]; exact z3⟩
  rw [eM, eT, hq]
  unfold wqE
  by_cases hlg : largeB ((rlM l0).length + (rlT l0).length + 10) (wqL (r.map hdV)) = true
  · right
    rw [if_pos hlg]
    refine ⟨rfl, ?_⟩
    unfold largeB at hlg
    rw [Bool.or_eq_true, decide_eq_true_eq, decide_eq_true_eq, w5, w6, List.length_map] at hlg
    rw [List.length_cons] at hfew
    rw [List.map_cons, List.sum_cons] at hsum
    have h5 := lns_hds hall
    have hvl : verB.length = 8 := rfl
    have e2 : (rlT l0).length + 1 + (rlV l0).length = (stR l0).length := sp32 (l := stR l0) (by show rlV l0 ≠ []; rw [hv]; decide)
    have e1 : (rlM l0).length + 1 + (stR l0).length = l0.length := sp32 (l := l0) (by intro hh; rw [hh] at e2; simp at e2)
    rw [hv, hvl] at e2
    rcases hlg with hlg | hlg <;> omega
  · left
    rw [if_neg hlg, if_neg (by rw [hm]; decide), if_neg (by rw [ht]; decide), if_neg (by rw [ok2]; decide), if_neg (by rw [w3]; exact fun h => by cases h)]
theorem lns_mem {l : List (List UInt8 × List UInt8)} {p : List UInt8 × List UInt8} (h : p ∈ l) : p.1.length + p.2.length ≤ (lns l).length := by
  obtain ⟨a, b, rfl⟩ := List.append_of_mem h
  unfold lns
  rw [List.flatMap_append, List.flatMap_cons, List.length_append, List.length_append]
  have : (ln p).length = p.1.length + p.2.length + 4 := by unfold ln; simp; omega
  omega
theorem rq_same {s d : List UInt8} {n : Nat} (h : rqE s = 0) (e : endF s = (n : Int)) (hl : n ≤ d.length) (he : d.take n = s.take n) :
    rqE d = 0 ∧ endF d = (n : Int) ∧ rqM d = rqM s ∧ rqT d = rqT s ∧ rqL d = rqL s := by
  have hl0 := rqE_ok h
  obtain ⟨n', e', h4, hl', h8, hst⟩ := lnE_ok hl0
  have hn : n' = n := by omega
  subst hn
  have eD := endF_same e (by omega) hl he
  have hT : d.take ((endF d).toNat - 4) = s.take ((endF s).toNat - 4) := by
    rw [eD, e]
    have := congrArg (List.take (n' - 4)) he
    rw [List.take_take, List.take_take, show min (n' - 4) n' = n' - 4 by omega] at this
    exact this
  have hLn : lnL d = lnL s := by unfold lnL; rw [hT]
  have hlE : lnE d = 0 := by
    unfold lnE at hl0 ⊢
    rw [eD, hLn]
    rw [e] at hl0
    rw [if_neg (by omega)] at hl0 ⊢
    rw [show ((n' : Nat) : Int).toNat = n' from rfl] at hl0 ⊢
    rw [he]
    exact hl0
  refine ⟨?_, eD, by unfold rqM; rw [hLn], by unfold rqT; rw [hLn], by unfold rqL; rw [hLn]⟩
  unfold rqE at h ⊢
  rw [if_pos hlE, hLn]
  rw [if_pos hl0] at h
  exact h
end Hd
end Go.Proofs.YtjffffpfejmoiaaGreatDoor
