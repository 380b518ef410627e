/-
  Layer 5: prefixes of a head, and a byte more: the plain law.
-/
import Derived.Test.YtemlnmelicnneaaDoorHRdReq
namespace Go.Proofs.YtemlnmelicnneaaDoor
open Go.RowKit Syn Fr Hd Ck

namespace Hd
theorem rqE_lnE {b : List UInt8} (h : lnE b ≠ 0) : rqE b = lnE b := by unfold rqE; rw [if_neg h]
theorem rqE_ok {b : List UInt8} (h : rqE b = 0) : lnE b = 0 := by
  by_cases h1 : lnE b = 0
  · exact h1
  · rw [rqE_lnE h1] at h; exact h
theorem lnE_ok {b : List UInt8} (h : lnE b = 0) : ∃ n : Nat, endF b = (n : Int) ∧ 4 ≤ n ∧ n ≤ b.length ∧ n ≤ 8192 ∧ strB (b.take n) = true := by
  unfold lnE at h
  split at h
  · cases h
  · split at h
    · cases h
    · next h1 h2 =>
      split at h
      · cases h
      · next h3 =>
        split at h
        · cases h
        · split at h
          · cases h
          · next h5 =>
            rcases endF_cases b with e | ⟨e, -⟩ | ⟨k, e, hk⟩
            · omega
            · exact absurd e h3
            · refine ⟨k + 4, e, by omega, hk, by omega, ?_⟩
              rw [e] at h5
              have : ((k + 4 : Nat) : Int).toNat = k + 4 := rfl
              rw [this] at h5
              cases hh : strB (b.take (k + 4)) with
              | true => rfl
              | false => exact absurd hh h5
/-- Does the end of a head stand at n? -/
def endAt (b : List UInt8) (n : Nat) : Prop := 4 ≤ n ∧ n ≤ b.length ∧ Lib.occAt b [13, 10, 13, 10] (n - 4) = true
theorem occ_take {b sub : List UInt8} {i n : Nat} (h : i + sub.length ≤ n) : Lib.occAt (b.take n) sub i = Lib.occAt b sub i := by
  unfold Lib.occAt
  rw [Bool.eq_iff_iff, List.isPrefixOf_iff_prefix, List.isPrefixOf_iff_prefix, List.prefix_iff_eq_take, List.prefix_iff_eq_take, List.drop_take, List.take_take, show min sub.length (n - i) = sub.length by omega]
theorem occ_len {b sub : List UInt8} {i : Nat} (h : Lib.occAt b sub i = true) (hs : 1 ≤ sub.length) : i + sub.length ≤ b.length := by
  unfold Lib.occAt at h
  have := (List.isPrefixOf_iff_prefix.1 h).length_le
  rw [List.length_drop] at this
  omega
/-- Two texts that are alike up to where the one ends. -/
theorem endF_same {b d : List UInt8} {n : Nat} (h : endF b = (n : Int)) (h2 : 3 ≤ n) (hl : n ≤ d.length) (he : d.take n = b.take n) : endF d = (n : Int) := by
  unfold endF at h ⊢
  split at h
  · omega
  · next hp =>
    have hp2 : ¬ Lib.hasPrefix d [13, 10] = true := fun hh => hp (by
      unfold Lib.hasPrefix at hh ⊢
      rw [List.isPrefixOf_iff_prefix, List.prefix_iff_eq_take] at hh ⊢
      have e := congrArg (List.take 2) he
      rw [List.take_take, List.take_take, show min 2 n = 2 by omega] at e
      exact hh.trans e)
    rw [if_neg hp2]
    split at h
    · omega
    · next hi =>
      rcases Lib.index_spec b [13, 10, 13, 10] with ⟨e, -⟩ | ⟨i, e, -, ho, hno⟩
      · omega
      · rw [e] at h
        have hin : i + 4 = n := by omega
        have key : ∀ j, j + 4 ≤ n → Lib.occAt d [13, 10, 13, 10] j = Lib.occAt b [13, 10, 13, 10] j := fun j hj => by
          have h1 := occ_take (b := d) (sub := [13, 10, 13, 10]) (i := j) (n := n) hj
          have h2 := occ_take (b := b) (sub := [13, 10, 13, 10]) (i := j) (n := n) hj
          rw [← h1, ← h2, he]
        have hd : Lib.index d [13, 10, 13, 10] = (i : Int) := Lib.index_first (by omega) (by rw [key i (by omega)]; exact ho) (fun j hj => by rw [key j (by omega)]; exact hno j hj)
        rw [hd, if_neg (by omega)]
        omega
/-- A proper prefix of a head has no end. -/
theorem endF_pre {b : List UInt8} {n i : Nat} (h : endF b = (n : Int)) (h4 : 4 ≤ n) (hi : i < n) : endF (b.take i) = -1 ∨ False := by
  left
  rcases endF_cases (b.take i) with e | ⟨e, h2⟩ | ⟨k, e, hk⟩
  · exact e
  · exfalso
    unfold endF at e h
    split at e
    · next hp =>
      have : Lib.hasPrefix b [13, 10] = true := by
        unfold Lib.hasPrefix at hp ⊢
        rw [List.isPrefixOf_iff_prefix] at hp ⊢
        exact hp.trans (List.take_prefix _ _)
      rw [if_pos this] at h
      omega
    · split at e
      · cases e
      · next h1 =>
        have := Lib.index_room (b.take i) [13, 10, 13, 10] (by omega)
        omega
  · exfalso
    rw [List.length_take] at hk
    have hb := endF_same e (by omega) (d := b) (by omega) (by rw [List.take_take, show min (k + 4) i = k + 4 by omega])
    omega
theorem pre_end {b : List UInt8} {i : Nat} (h : rqE b = 0) (hi : (i : Int) < endF b) : rqE (b.take i) = 21 := by
  obtain ⟨n, e, h4, hl, h8, -⟩ := lnE_ok (rqE_ok h)
  rw [e] at hi
  have he := (endF_pre (i := i) e h4 (by omega)).elim id False.elim
  have hL : lnE (b.take i) = 21 := by
    unfold lnE
    rw [he, if_pos ⟨by decide, by rw [List.length_take]; omega⟩]
  rw [rqE_lnE (by rw [hL]; decide), hL]
/-- Straightness, place by place. -/
theorem strR_at : ∀ (l : List UInt8) (cr : Bool), strR cr l = true → ∀ i c, l[i]? = some c → c.toNat ≠ 0 ∧ (c.toNat = 13 → ∃ d, l[i + 1]? = some d ∧ d.toNat = 10) ∧ (c.toNat = 10 → (i = 0 ∧ cr = true) ∨ ∃ j d, i = j + 1 ∧ l[j]? = some d ∧ d.toNat = 13)
  | [], _, _, i, c, hc => by simp at hc
  | x :: l, cr, h, i, c, hc => by
    rw [strR] at h
    by_cases h0 : x.toNat = 0
    · rw [if_pos h0] at h; cases h
    · rw [if_neg h0] at h
      by_cases h10 : x.toNat = 10
      · rw [if_pos h10, Bool.and_eq_true] at h
        cases i with
        | zero =>
          obtain rfl : x = c := by simpa using hc
          exact ⟨h0, fun e => by omega, fun _ => .inl ⟨rfl, h.1⟩⟩
        | succ i =>
          obtain ⟨a1, a2, a3⟩ := strR_at l false h.2 i c (by simpa using hc)
          refine ⟨a1, fun e => by simpa using a2 e, fun e => ?_⟩
          rcases a3 e with ⟨-, a4⟩ | ⟨j, d, rfl, a4, a5⟩
          · cases a4
          · exact .inr ⟨j + 1, d, rfl, by simpa using a4, a5⟩
      · rw [if_neg h10] at h
        by_cases hcr : cr = true
        · rw [if_pos hcr] at h; cases h
        · rw [if_neg hcr] at h
          cases i with
          | zero =>
            obtain rfl : x = c := by simpa using hc
            refine ⟨h0, fun e => ?_, fun e => absurd e h10⟩
            rw [e] at h
            cases l with
            | nil => cases h
            | cons d r =>
              refine ⟨d, by simp, ?_⟩
              by_cases hd : d.toNat = 10
              · exact hd
              · rw [show decide (13 = 13) = true from rfl, strR_cr hd] at h; cases h
          | succ i =>
            obtain ⟨a1, a2, a3⟩ := strR_at l _ h i c (by simpa using hc)
            refine ⟨a1, fun e => by simpa using a2 e, fun e => ?_⟩
            rcases a3 e with ⟨a4, a5⟩ | ⟨j, d, rfl, a4, a5⟩
            · subst a4
              rw [decide_eq_true_eq] at a5
              exact .inr ⟨0, x, rfl, rfl, a5⟩
            · exact .inr ⟨j + 1, d, rfl, by simpa using a4, a5⟩
/-- A byte more. -/
def ins (b : List UInt8) (n i : Nat) (c : UInt8) : List UInt8 := b.take i ++ [c] ++ (b.drop i).take (n - i)
theorem ins_lo {b : List UInt8} {n i j : Nat} {c : UInt8} (hi : i ≤ b.length) (hj : j < i) : (ins b n i c)[j]? = b[j]? := by
  unfold ins
  rw [List.append_assoc, List.getElem?_append_left (by rw [List.length_take]; omega), List.getElem?_take, if_pos hj]
theorem ins_at {b : List UInt8} {n i : Nat} {c : UInt8} (hi : i ≤ b.length) : (ins b n i c)[i]? = some c := by
  unfold ins
  have hl : (b.take i).length = i := by rw [List.length_take]; omega
  rw [List.append_assoc, List.getElem?_append_right (by omega), hl, Nat.sub_self]; rfl
theorem ins_hi {b : List UInt8} {n i : Nat} {c : UInt8} (hi : i < n) (hn : n ≤ b.length) : (ins b n i c)[i + 1]? = b[i]? := by
  unfold ins
  have hl : (b.take i).length = i := by rw [List.length_take]; omega
  rw [List.append_assoc, List.getElem?_append_right (by omega), hl, show i + 1 - i = 1 by omega]
  show ((b.drop i).take (n - i))[0]? = _
  rw [List.getElem?_take, if_pos (by omega), List.getElem?_drop, Nat.add_zero]
theorem ins_len {b : List UInt8} {n i : Nat} {c : UInt8} (hi : i < n) (hn : n ≤ b.length) : (ins b n i c).length = n + 1 := by
  unfold ins
  rw [List.length_append, List.length_append, List.length_take, List.length_take, List.length_drop, List.length_singleton]; omega
theorem ins_bad {b : List UInt8} {n i : Nat} {c : UInt8} (h : rqE b = 0) (hn : endF b = (n : Int)) (hi : i < n) (hc : c.toNat = 13 ∨ c.toNat = 10 ∨ c.toNat = 0) (hx : ¬ (c.toNat = 10 ∧ i = n - 1)) : rqE (ins b n i c) ≠ 0 := by
  intro hd
  obtain ⟨n0, e0, h4, hl, h8, hs⟩ := lnE_ok (rqE_ok h)
  obtain rfl : n0 = n := by omega
  obtain ⟨n1, e1, g4, gl, -, gs⟩ := lnE_ok (rqE_ok hd)
  have hlen := ins_len (c := c) hi hl
  by_cases hle : n1 ≤ i
  · have he : b.take n1 = (ins b n0 i c).take n1 := by
      unfold ins
      rw [List.append_assoc, List.take_append_of_le_length (by rw [List.length_take]; omega), List.take_take, show min n1 i = n1 by omega]
    have := endF_same (d := b) e1 (by omega) (by omega) he
    omega
  · have lo : ∀ j, j < i → ((ins b n0 i c).take n1)[j]? = b[j]? := fun j hj => by rw [List.getElem?_take, if_pos (by omega), ins_lo (by omega) hj]
    have at' : ((ins b n0 i c).take n1)[i]? = some c := by rw [List.getElem?_take, if_pos (by omega), ins_at (by omega)]
    have blo : ∀ j, j < n0 → (b.take n0)[j]? = b[j]? := fun j hj => by rw [List.getElem?_take, if_pos hj]
    have S := strR_at _ false gs
    have B := strR_at _ false hs
    obtain ⟨s1, s2, s3⟩ := S i c at'
    rcases hc with hc | hc | hc
    · obtain ⟨d, hd1, hd2⟩ := s2 hc
      have hb : b[i]? = some d := by
        by_cases hh : i + 1 < n1
        · rw [List.getElem?_take, if_pos hh, ins_hi hi hl] at hd1; exact hd1
        · rw [List.getElem?_take, if_neg hh] at hd1; cases hd1
      obtain ⟨-, -, b3⟩ := B i d (by rw [blo i hi]; exact hb)
      rcases b3 hd2 with ⟨-, hf⟩ | ⟨j, x, hj, hx1, hx2⟩
      · cases hf
      · subst hj
        rw [blo j (by omega)] at hx1
        obtain ⟨-, t2, -⟩ := S j x (by rw [lo j (by omega)]; exact hx1)
        obtain ⟨y, hy1, hy2⟩ := t2 hx2
        rw [at'] at hy1
        obtain rfl : c = y := Option.some.inj hy1
        omega
    · rcases s3 hc with ⟨-, hf⟩ | ⟨j, x, hj, hx1, hx2⟩
      · cases hf
      · subst hj
        rw [lo j (by omega)] at hx1
        obtain ⟨-, b2, -⟩ := B j x (by rw [blo j (by omega)]; exact hx1)
        obtain ⟨y, hy1, hy2⟩ := b2 hx2
        rw [blo (j + 1) hi] at hy1
        by_cases hh : j + 1 + 1 < n1
        · obtain ⟨-, -, t3⟩ := S (j + 1 + 1) y (by rw [List.getElem?_take, if_pos hh, ins_hi hi hl]; exact hy1)
          rcases t3 hy2 with ⟨hf, -⟩ | ⟨j2, z, hj2, hz1, hz2⟩
          · omega
          · obtain rfl : j2 = j + 1 := by omega
            rw [at'] at hz1
            obtain rfl : c = z := Option.some.inj hz1
            omega
        · obtain rfl : n1 = j + 1 + 1 := by omega
          have hcy : c = y := UInt8.toNat_inj.1 (by omega)
          subst hcy
          have he : b.take (j + 1 + 1) = (ins b n0 (j + 1) c).take (j + 1 + 1) := by
            unfold ins
            have hl2 : (b.take (j + 1)).length = j + 1 := by rw [List.length_take]; omega
            have e2 : (b.take (j + 1) ++ [c] ++ (b.drop (j + 1)).take (n0 - (j + 1))).take (j + 1 + 1) = b.take (j + 1) ++ [c] := List.take_left' (by rw [List.length_append, hl2]; rfl)
            have e3 : b.take (j + 1 + 1) = b.take (j + 1) ++ [c] := by rw [List.take_add_one, hy1]; rfl
            exact e3.trans e2.symm
          have := endF_same (d := b) e1 (by omega) (by omega) he
          exact hx ⟨hc, by omega⟩
    · exact s1 hc
end Hd
end Go.Proofs.YtemlnmelicnneaaDoor
