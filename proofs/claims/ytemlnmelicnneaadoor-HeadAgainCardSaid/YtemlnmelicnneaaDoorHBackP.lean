/-
  Layer 5: a response that is written is read back: the plain law.
-/
import Derived.Test.YtemlnmelicnneaaDoorHText
import Derived.Test.YtemlnmelicnneaaDoorHResp
namespace Go.Proofs.YtemlnmelicnneaaDoor
open Go.RowKit Syn Fr Hd Ck

namespace Hd
def ftx (p : List UInt8 × List UInt8) : List UInt8 := p.1 ++ 58 :: 32 :: p.2
theorem ln_ftx (p : List UInt8 × List UInt8) : ln p = ftx p ++ [13, 10] := by unfold ln ftx; simp
theorem lns_txt (l : List (List UInt8 × List UInt8)) : lns l = txt (l.map ftx) := by
  unfold lns txt
  rw [List.flatMap_map]
  congr 1
  funext p
  exact ln_ftx p
theorem head_txt (st : List UInt8) (l : List (List UInt8 × List UInt8)) (rest : List UInt8) : headB st l ++ rest = txt (st :: l.map ftx) ++ 13 :: 10 :: rest := by
  unfold headB
  rw [txt_cons, ← lns_txt]; simp
theorem head_len (st : List UInt8) (l : List (List UInt8 × List UInt8)) : (headB st l).length = (txt (st :: l.map ftx)).length + 2 := by
  have := congrArg List.length (head_txt st l [])
  rw [List.append_nil, List.length_append] at this
  exact this
/-- A field as it is read. -/
def okR (p : List UInt8 × List UInt8) : Prop := nmE p.1 = 0 ∧ nmV p.1 = p.1 ∧ vlE p.2 = 0 ∧ vlV p.2 = p.2
theorem tok_byte {x : List UInt8} (h : isTok x = true) : ∀ c ∈ x, c ≠ 32 ∧ c ≠ 9 := fun c hc => by
  unfold isTok at h
  rw [Bool.and_eq_true, List.all_eq_true] at h
  have := h.1 c hc
  constructor
  · intro e; rw [e] at this; exact absurd this (by decide)
  · intro e; rw [e] at this; exact absurd this (by decide)
theorem okR_can {l : List (List UInt8 × List UInt8)} (h : okCs l = true) : ∀ p ∈ can l, okR p := by
  intro p hp
  obtain ⟨q, hq, rfl⟩ := List.mem_map.1 hp
  obtain ⟨h1, h2, h3⟩ := (okC_iff q.1 q.2).1 (List.all_eq_true.1 h q hq)
  obtain ⟨h4, h5⟩ := nmE_lower h1
  exact ⟨h4, h5, h2, h3⟩
theorem ftx_line {p : List UInt8 × List UInt8} (h : okR p) : ftx p ≠ [] ∧ clr (ftx p) := by
  obtain ⟨h1, -, h3, -⟩ := h
  refine ⟨by unfold ftx; simp, fun c hc => ?_⟩
  unfold ftx at hc
  rw [List.mem_append, List.mem_cons, List.mem_cons] at hc
  rcases hc with hc | rfl | rfl | hc
  · exact cln_byte (tok_clean (nmE_tok h1).1) c hc
  · decide
  · decide
  · exact cln_byte (vlE_cln h3).1 c hc
theorem hd_ftx {p : List UInt8 × List UInt8} (h : okR p) : hdE (ftx p) = 0 ∧ hdV (ftx p) = p := by
  obtain ⟨n, v⟩ := p
  obtain ⟨h1, h2, h3, h4⟩ := h
  simp only at h1 h2 h3 h4
  obtain ⟨ht, -, -⟩ := nmE_tok h1
  obtain ⟨e1, e2⟩ := take58 n (32 :: v) (tok58 ht)
  have hne : n ≠ [] := by rintro rfl; exact absurd ht (by decide)
  have eN : hdN (ftx (n, v)) = n := e1
  have eR : hdR (ftx (n, v)) = 32 :: v := by unfold hdR ftx; rw [e2]; rfl
  have eE : ((ftx (n, v)).dropWhile (· != 58)).isEmpty = false := by
    show ((n ++ 58 :: 32 :: v).dropWhile (· != 58)).isEmpty = false
    rw [e2]; rfl
  have hf : ∀ k : UInt8, k = 32 ∨ k = 9 → fst k (ftx (n, v)) = false := fun k hk => by
    cases n with
    | nil => exact absurd rfl hne
    | cons c r =>
      have hb := tok_byte ht c (by simp)
      unfold fst ftx
      show decide (c = k) = false
      rw [decide_eq_false_iff_not]
      rcases hk with rfl | rfl
      · exact hb.1
      · exact hb.2
  have hbl : n.any Syn.blank = false := by
    rw [List.any_eq_false]
    intro c hc
    have hb := tok_byte ht c hc
    unfold Syn.blank
    simp [hb.1, hb.2]
  obtain ⟨v1, v2⟩ := vlE_sp h3
  have hE : hdE (ftx (n, v)) = 0 := by
    unfold hdE
    rw [if_neg (by rw [hf 32 (.inl rfl), hf 9 (.inr rfl)]; simp), if_neg (by rw [eE, eN]; simp [hne]), eN, if_neg (by rw [hbl]; decide), if_neg (fun h => h h1), eR, if_neg (fun h => h v1)]
  refine ⟨hE, ?_⟩
  unfold hdV
  rw [if_pos hE, eN, eR, h2, v2, h4]
theorem hds_ftx : ∀ {l : List (List UInt8 × List UInt8)}, (∀ p ∈ l, okR p) → hdsE (l.map ftx) = 0 ∧ (l.map ftx).map hdV = l
  | [], _ => ⟨rfl, rfl⟩
  | p :: r, h => by
    obtain ⟨h1, h2⟩ := hd_ftx (h p (by simp))
    obtain ⟨h3, h4⟩ := hds_ftx (l := r) (fun q hq => h q (by simp [hq]))
    constructor
    · rw [List.map_cons, hdsE, if_pos h1, h3]
    · rw [List.map_cons, List.map_cons, h2, h4]
theorem take32 : ∀ (x y : List UInt8), (∀ c ∈ x, c ≠ 32) → (x ++ 32 :: y).takeWhile (· != 32) = x ∧ (x ++ 32 :: y).dropWhile (· != 32) = 32 :: y
  | [], y, _ => ⟨rfl, rfl⟩
  | c :: x, y, h => by
    have hc := h c (by simp)
    obtain ⟨h1, h2⟩ := take32 x y (fun d hd => h d (by simp [hd]))
    rw [List.cons_append, List.takeWhile_cons, List.dropWhile_cons, if_pos (by simpa using hc), if_pos (by simpa using hc), h1, h2]
    exact ⟨rfl, rfl⟩
theorem rsn_cln (s : Int) : cln (rsn s) = true := by
  unfold rsn lk
  have h : ∀ p ∈ phr, cln p.2 = true := by decide
  cases hx : phr.find? (fun p => decide ((p.1 : Int) = s)) with
  | none => rfl
  | some p => exact h p (List.mem_of_find?_eq_some hx)
theorem dg3_at {n : Nat} (h : n ≤ 999) : (dg3 n).all dgt = true ∧ dval (dg3 n) = n ∧ ∀ c ∈ dg3 n, c ≠ 32 ∧ c.toNat ≠ 0 ∧ c.toNat ≠ 10 ∧ c.toNat ≠ 13 := by
  have e1 : (UInt8.ofNat (48 + n / 100)).toNat = 48 + n / 100 := by rw [UInt8.toNat_ofNat']; omega
  have e2 : (UInt8.ofNat (48 + n / 10 % 10)).toNat = 48 + n / 10 % 10 := by rw [UInt8.toNat_ofNat']; omega
  have e3 : (UInt8.ofNat (48 + n % 10)).toNat = 48 + n % 10 := by rw [UInt8.toNat_ofNat']; omega
  refine ⟨?_, ?_, ?_⟩
  · unfold dg3 dgt
    simp only [List.all_cons, List.all_nil, e1, e2, e3, Bool.and_true, Bool.and_eq_true, decide_eq_true_eq]
    omega
  · unfold dval dg3
    simp only [List.foldl_cons, List.foldl_nil, e1, e2, e3]
    omega
  · have key : ∀ c : UInt8, 48 ≤ c.toNat → c ≠ 32 ∧ c.toNat ≠ 0 ∧ c.toNat ≠ 10 ∧ c.toNat ≠ 13 := fun c hc => ⟨fun e => by rw [e] at hc; exact absurd hc (by decide), by omega, by omega, by omega⟩
    intro c hc
    unfold dg3 at hc
    simp only [List.mem_cons, List.not_mem_nil, or_false] at hc
    rcases hc with rfl | rfl | rfl
    · exact key _ (by rw [e1]; omega)
    · exact key _ (by rw [e2]; omega)
    · exact key _ (by rw [e3]; omega)
theorem startB_eq (n : Nat) : startB (n : Int) = verB ++ 32 :: (dg3 n ++ 32 :: rsn (n : Int)) := by
  unfold startB httpV verB
  simp
theorem start_back {n : Nat} (h1 : 100 ≤ n) (h2 : n ≤ 599) : stD (startB (n : Int)) = verB ∧ stB (stR (startB (n : Int))) = true ∧ stV (stR (startB (n : Int))) = (n : Int) ∧ startB (n : Int) ≠ [] ∧ clr (startB (n : Int)) := by
  obtain ⟨d1, d2, d3⟩ := dg3_at (n := n) (by omega)
  obtain ⟨a1, a2⟩ := take32 verB (dg3 n ++ 32 :: rsn (n : Int)) (by decide)
  obtain ⟨b1, b2⟩ := take32 (dg3 n) (rsn (n : Int)) (fun c hc => (d3 c hc).1)
  have eR : stR (startB (n : Int)) = dg3 n ++ 32 :: rsn (n : Int) := by unfold stR; rw [startB_eq, a2]; rfl
  have eD : stD (dg3 n ++ 32 :: rsn (n : Int)) = dg3 n := b1
  have eS : stR (dg3 n ++ 32 :: rsn (n : Int)) = rsn (n : Int) := by unfold stR; rw [b2]; rfl
  refine ⟨by unfold stD; rw [startB_eq, a1], ?_, ?_, by rw [startB_eq]; simp [verB], ?_⟩
  · rw [eR]
    unfold stB
    rw [eD, eS, d1, d2, rsn_cln, decide_eq_true h1, decide_eq_true h2]; rfl
  · rw [eR]
    unfold stV
    rw [eD, d2]
  · intro c hc
    rw [startB_eq, List.mem_append, List.mem_cons, List.mem_append, List.mem_cons] at hc
    rcases hc with hc | rfl | hc | rfl | hc
    · have : ∀ c ∈ verB, c.toNat ≠ 0 ∧ c.toNat ≠ 10 ∧ c.toNat ≠ 13 := by decide
      exact this c hc
    · decide
    · exact (d3 c hc).2
    · decide
    · exact cln_byte (rsn_cln _) c hc
/-- What is written is read. -/
theorem resp_back {s : Int} {l : List (List UInt8 × List UInt8)} (rest : List UInt8) (h : wrE s l = 0) :
    rrE (wrB s l ++ rest) = 0 ∧ rrS (wrB s l ++ rest) = s ∧ rrL (wrB s l ++ rest) = can l ∧ endF (wrB s l ++ rest) = ((wrB s l).length : Int) := by
  have hB : wrB s l = headB (startB s) (can l) := by unfold wrB; rw [if_pos h]
  have hw := h
  unfold wrE at hw
  have hlg : largeB (13 + (rsn s).length) l = false := by
    cases hh : largeB (13 + (rsn s).length) l with
    | false => rfl
    | true => rw [if_pos hh] at hw; cases hw
  rw [if_neg (by rw [hlg]; decide)] at hw
  have hr : 100 ≤ s ∧ s ≤ 599 := by
    by_cases hh : s < 100 ∨ 599 < s
    · rw [if_pos hh] at hw; cases hw
    · omega
  rw [if_neg (by omega)] at hw
  have hok : okCs l = true := by
    cases hh : okCs l with
    | true => rfl
    | false => rw [if_neg (by rw [hh]; decide)] at hw; cases hw
  obtain ⟨n, rfl⟩ : ∃ n : Nat, s = (n : Int) := ⟨s.toNat, by omega⟩
  obtain ⟨s1, s2, s3, s4, s5⟩ := start_back (n := n) (by omega) (by omega)
  have hO := okR_can hok
  have hlines : ∀ x ∈ startB (n : Int) :: (can l).map ftx, x ≠ [] ∧ clr x := by
    intro x hx
    rcases List.mem_cons.1 hx with rfl | hx
    · exact ⟨s4, s5⟩
    · obtain ⟨p, hp, rfl⟩ := List.mem_map.1 hx
      exact ftx_line (hO p hp)
  unfold largeB at hlg
  rw [Bool.or_eq_false_iff, decide_eq_false_iff_not, decide_eq_false_iff_not] at hlg
  have hcl : (can l).length = l.length := List.length_map ..
  have hlen : (headB (startB (n : Int)) (can l)).length = 13 + (rsn (n : Int)).length + 2 + ((lns l).length + 2) := by
    have e1 : (startB (n : Int)).length = 13 + (rsn (n : Int)).length := by
      unfold startB
      rw [List.length_append, List.length_append, List.length_append]
      rfl
    have e2 : (lns (can l)).length = (lns l).length := by rw [← lnsR_ok l hok, lnsR_len]
    unfold headB
    rw [List.length_append, List.length_append, List.length_append, e1, e2]
    rfl
  obtain ⟨t1, t2, t3⟩ := lines_txt rest hlines (by rw [← head_len, hlen]; omega) (by rw [List.length_map, hcl]; omega)
  obtain ⟨f1, f2⟩ := hds_ftx hO
  rw [hB, head_txt]
  refine ⟨?_, ?_, ?_, ?_⟩
  · unfold rrE
    rw [if_pos t1, t2, rrX_cons, if_pos s1, if_neg (by rw [s2]; decide), f1]
  · unfold rrS
    rw [t2]; exact s3
  · unfold rrL
    rw [t2]; exact f2
  · rw [t3, head_len]
end Hd
end Go.Proofs.YtemlnmelicnneaaDoor
