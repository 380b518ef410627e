/-
  Layer 33, plain: what the laws of Edge say.
-/
import Derived.Test.YtpfpjcfacbfjaaaGreatDoorTRingS
namespace Go.Proofs.YtpfpjcfacbfjaaaGreatDoor
open Go.RowKit Rg Syn Ti
namespace Ti
theorem chkN_zero {p : List Bytes} (h : chkN p = 0) : p.length ≤ 4 ∧ ¬Dup p ∧ ¬Bad p := by
  refine ⟨?_, fun hd => ?_, fun hb => ?_⟩
  · rcases Nat.lt_or_ge 4 p.length with h4 | h4
    · rw [chkN_long h4] at h; cases h
    · exact h4
  · rw [chkN_dup hd] at h; cases h
  · by_cases h4 : 4 < p.length
    · rw [chkN_long h4] at h; cases h
    · by_cases hd : Dup p
      · rw [chkN_dup hd] at h; cases h
      · rw [chkN_bad h4 hd hb] at h; cases h
theorem atN_zero {l : List Bytes} {self : Bytes} (h : atN l self = 0) : l.length + 1 ≤ 4 ∧ self ≠ org ∧ org ∉ l ∧ self ∉ l := by
  unfold atN at h
  split at h
  · next hc =>
    obtain ⟨h4, hd, hb⟩ := chkN_zero hc
    split at h
    · cases h
    · next hs =>
      rw [List.length_append, List.length_singleton] at h4
      refine ⟨h4, hs, fun ho => ?_, fun hm => ?_⟩
      · obtain ⟨i, hi, e⟩ := List.mem_iff_getElem.1 ho
        exact hb ⟨i, by rw [List.length_append]; omega, .inr ⟨by rw [List.getElem_append_left hi]; exact e, by rw [List.length_append, List.length_singleton]; omega⟩⟩
      · refine hd ⟨l.length, by rw [List.length_append, List.length_singleton]; omega, ?_⟩
        rw [List.getElem_append_right (Nat.le_refl _), List.take_left' rfl]
        simpa using hm
  · next hc => exact absurd h hc
theorem atN_val (l : List Bytes) (self : Bytes) : atN l self = 0 ∨ atN l self = 8 ∨ atN l self = 17 := by
  unfold atN
  split
  · split
    · exact .inr (.inl rfl)
    · exact .inl rfl
  · rcases chkN_at (l ++ [self]) with h | h | h
    · exact .inr (.inr h)
    · exact .inr (.inl h)
    · exact .inl h
/-- The candidates, and the origin behind them. -/
theorem cands_mem {O up path : List Bytes} {self x : Bytes} : x ∈ cands O up path self ↔ x ∈ O ∧ x ∈ up ∧ x ∉ path ∧ x ≠ self := by
  unfold cands
  rw [List.mem_filter]
  simp only [Bool.and_eq_true, decide_eq_true_eq]
theorem all_nodup {c : List Bytes} (hn : c.Nodup) (ho : org ∉ c) : (c ++ [org]).Nodup := by
  rw [List.nodup_append]
  exact ⟨hn, by simp, fun a ha b hb e => ho (by simp at hb; rw [← hb, ← e]; exact ha)⟩
theorem cands_nodup {O up path : List Bytes} {self : Bytes} (hn : O.Nodup) : (cands O up path self).Nodup := List.Nodup.sublist List.filter_sublist hn
theorem not_before {c : List Bytes} (hn : c.Nodup) {i : Nat} (hi : i < c.length) : c[i] ∉ c.take i := fun h => by
  obtain ⟨j, hj, e⟩ := List.mem_iff_getElem.1 h
  rw [List.length_take] at hj
  rw [List.getElem_take] at e
  exact (List.pairwise_iff_getElem.1 hn) j i (by omega) hi (by omega) e
theorem edS_at {c : List Bytes} {i : Nat} (hi : i ≤ c.length) : edS 0 c (i : Int) = (c ++ [org])[i]'(by rw [List.length_append, List.length_singleton]; omega) ∧ edE 0 c (i : Int) = 0 := by
  have h : ¬ ((i : Int) < 0 ∨ (c.length : Int) < (i : Int)) := by omega
  unfold edS edE
  rw [if_neg (by simp), if_neg h, if_neg (by simp), if_neg h]
  refine ⟨?_, rfl⟩
  rw [Int.toNat_natCast, List.getD_eq_getElem?_getD, List.getElem?_eq_getElem (by rw [List.length_append, List.length_singleton]; omega)]; rfl
theorem edE_past {c : List Bytes} {i : Nat} (hi : c.length < i) : edS 0 c (i : Int) = [] ∧ edE 0 c (i : Int) = 3 := by
  have h : ((i : Int) < 0 ∨ (c.length : Int) < (i : Int)) := by omega
  unfold edS edE
  rw [if_neg (by simp), if_pos h, if_neg (by simp), if_pos h]
  exact ⟨rfl, rfl⟩
theorem edE_bad {b : Int} (hb : b ≠ 0) (c : List Bytes) (i : Int) : edS b c i = [] ∧ edE b c i = b := by
  unfold edS edE
  rw [if_pos hb, if_pos hb]
  exact ⟨rfl, rfl⟩
/-- The first candidate stays, if a node behind it goes or comes. -/
theorem steady {O up up' path : List Bytes} {self s o : Bytes} {T : List Bytes} (h : cands O up path self = s :: T) (hup : ∀ x, x ≠ o → (x ∈ up' ↔ x ∈ up)) (hbe : ∀ A B, O = A ++ s :: B → o ∉ A ∧ o ≠ s) : ∃ T', cands O up' path self = s :: T' := by
  unfold cands at h ⊢
  obtain ⟨A, B, rfl, hA, hs, hT⟩ := List.filter_eq_cons_iff.1 h
  obtain ⟨h1, h2⟩ := hbe A B rfl
  rw [List.filter_append, List.filter_eq_nil_iff.2 (fun x hx => ?_), List.nil_append, List.filter_cons_of_pos]
  · exact ⟨_, rfl⟩
  · simp only [Bool.and_eq_true, decide_eq_true_eq] at hs ⊢
    exact ⟨(hup s (fun e => h2 e.symm)).2 hs.1, hs.2⟩
  · have := hA x hx
    simp only [Bool.and_eq_true, decide_eq_true_eq] at this ⊢
    exact fun hc => this ⟨(hup x (fun e => h1 (e ▸ hx))).1 hc.1, hc.2⟩
end Ti
end Go.Proofs.YtpfpjcfacbfjaaaGreatDoor
