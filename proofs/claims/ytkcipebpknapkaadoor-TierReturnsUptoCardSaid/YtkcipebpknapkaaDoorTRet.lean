/-
  Layer 33: a path that is written is read back. Plain Lean.
-/
import Derived.Test.YtkcipebpknapkaaDoorTVias
import Derived.Test.YtkcipebpknapkaaDoorElem
namespace Go.Proofs.YtkcipebpknapkaaDoor
open Go.RowKit Ti Syn

namespace Ti
/-- A byte of a name. -/
def gb (c : UInt8) : Bool := !(decide (c.toNat ≤ 32) || c.toNat == 44 || c.toNat == 34 || c.toNat == 127)
def gname (x : Bytes) : Bool := !x.isEmpty && x.all gb
theorem gb_of {c : UInt8} (h : gb c = true) : c ≠ 34 ∧ c ≠ 44 ∧ Syn.blank c = false ∧ Syn.ctl c = false := by
  unfold gb at h
  simp only [Bool.not_eq_true', Bool.or_eq_false_iff, decide_eq_false_iff_not, beq_eq_false_iff_ne] at h
  obtain ⟨⟨⟨h1, h2⟩, h3⟩, h4⟩ := h
  refine ⟨?_, ?_, ?_, ?_⟩
  · rintro rfl; exact h3 rfl
  · rintro rfl; exact h2 rfl
  · unfold Syn.blank
    rw [Bool.or_eq_false_iff, beq_eq_false_iff_ne, beq_eq_false_iff_ne]
    exact ⟨by rintro rfl; exact h1 (by decide), by rintro rfl; exact h1 (by decide)⟩
  · unfold Syn.ctl Syn.ctlN
    rw [Bool.or_eq_false_iff, decide_eq_false h4, decide_eq_false (show ¬ c.toNat < 32 by omega)]
    exact ⟨rfl, rfl⟩
theorem gname_of {x : Bytes} (h : gname x = true) : x ≠ [] ∧ ∀ c ∈ x, gb c = true := by
  unfold gname at h
  rw [Bool.and_eq_true] at h
  exact ⟨by rintro rfl; exact absurd h.1 (by decide), fun c hc => List.all_eq_true.1 h.2 c hc⟩
theorem inside_q {x : Bytes} (h : gname x = true) : Inside (Ti.pre ++ x) := Inside.all _ fun a ha => by
  rcases List.mem_append.1 ha with ha | ha
  · exact (show ∀ a ∈ Ti.pre, a ≠ 34 ∧ a ≠ 44 by decide) a ha
  · have := gb_of ((gname_of h).2 a ha); exact ⟨this.1, this.2.1⟩
theorem firm_q {x : Bytes} (h : gname x = true) : Firm (Ti.pre ++ x) := by
  refine ⟨⟨113, [117, 97, 121, 32] ++ x, rfl, by decide⟩, ?_⟩
  have hne := (gname_of h).1
  exact ⟨x.getLast hne, Ti.pre ++ x.dropLast, by rw [List.append_assoc, List.dropLast_concat_getLast hne], (gb_of ((gname_of h).2 _ (List.getLast_mem hne))).2.2.1⟩
theorem clean_q {x : Bytes} (h : gname x = true) : cln (Ti.pre ++ x) = true := by
  rw [clean_append, show cln Ti.pre = true by decide, Bool.true_and]
  unfold cln
  rw [List.all_eq_true]
  intro c hc
  rw [(gb_of ((gname_of h).2 c hc)).2.2.2]; rfl
theorem via_reads : ∀ (n : Nat) (a : List Bytes), a.length = n → (∀ x ∈ a, gname x = true) → cln (via a) = true ∧ (a = [] ∨ ∃ out c, (∀ r, partsGo 44 false [] [] (via a ++ r) = partsGo 44 false c out r) ∧ out ++ [trim c] = a.map (Ti.pre ++ ·)) := by
  intro n
  induction n with
  | zero => intro a h _; rw [List.eq_nil_of_length_eq_zero h]; exact ⟨by decide, .inl rfl⟩
  | succ n ih =>
    intro a h hs
    obtain ⟨b, x, rfl⟩ : ∃ b x, a = b ++ [x] := ⟨a.dropLast, a.getLast (by intro e; rw [e] at h; cases h), (List.dropLast_concat_getLast _).symm⟩
    obtain ⟨hc, hr⟩ := ih b (by simpa using h) fun y hy => hs y (by simp [hy])
    have hx := hs x (by simp)
    have hq := inside_q hx
    have hf := firm_q hx
    have ht : trim (Ti.pre ++ x) = Ti.pre ++ x := by have := trim_firm (p := []) (r := []) rfl rfl hf; rwa [List.append_nil, List.nil_append] at this
    have ht2 : trim ([32] ++ (Ti.pre ++ x)) = Ti.pre ++ x := by have := trim_firm (p := [32]) (r := []) (by decide) rfl hf; rwa [List.append_nil] at this
    rw [via_snoc]
    refine ⟨?_, .inr ?_⟩
    · rw [clean_append, clean_append, hc, clean_q hx]
      split <;> decide
    · rcases hr with rfl | ⟨out, c, hg, ho⟩
      · refine ⟨[], Ti.pre ++ x, fun r => ?_, by rw [ht]; rfl⟩
        rw [if_pos rfl, List.append_nil, show via [] = [] from rfl, List.nil_append, hq]; rfl
      · by_cases hb : b = []
        · subst hb
          refine ⟨[], Ti.pre ++ x, fun r => ?_, by rw [ht]; rfl⟩
          rw [if_pos rfl, List.append_nil, show via [] = [] from rfl, List.nil_append, hq]; rfl
        · refine ⟨out ++ [trim c], [32] ++ (Ti.pre ++ x), fun r => ?_, by rw [ht2, ho]; simp⟩
          rw [if_neg hb, List.append_assoc, List.append_assoc, hg]
          show partsGo 44 false c out (44 :: 32 :: (Ti.pre ++ x ++ r)) = _
          rw [go_sep, go_blank (by decide) (by decide), hq]; rfl
theorem list_via {a : List Bytes} (hs : ∀ x ∈ a, gname x = true) : Syn.list (via a) = some (a.map (Ti.pre ++ ·)) := by
  obtain ⟨hc, hr⟩ := via_reads a.length a rfl hs
  have hfull : full (a.map (Ti.pre ++ ·)) = a.map (Ti.pre ++ ·) := by
    unfold full
    rw [List.filter_eq_self]
    intro y hy
    obtain ⟨x, _, rfl⟩ := List.mem_map.1 hy
    rfl
  rcases hr with rfl | ⟨out, c, hg, ho⟩
  · decide
  · have h1 := hg []
    rw [List.append_nil, partsGo, if_neg (by decide), ho] at h1
    unfold Syn.list parts
    rw [if_pos hc, h1]
    exact congrArg some hfull
theorem read_names {a : List Bytes} (hs : ∀ x ∈ a, gname x = true) : readV (a.map (Ti.pre ++ ·)) = a := by
  unfold readV
  rw [List.filterMap_map]
  have : ∀ x ∈ a, (nameOf ∘ fun x => Ti.pre ++ x) x = some x := by
    intro x hx
    have hg := gname_of (hs x hx)
    show nameOf (Ti.pre ++ x) = some x
    rw [nameOf_yes rfl (by rw [List.length_append]; have := List.length_pos_iff.2 hg.1; show 6 ≤ 5 + _; omega), show (Ti.pre ++ x).drop 5 = x from rfl, if_pos]
    rw [List.any_eq_false]
    intro c hc
    rw [(gb_of (hg.2 c hc)).2.2.1]; decide
  clear hs
  induction a with
  | nil => rfl
  | cons x r ih =>
    rw [List.filterMap_cons, this x (List.mem_cons_self ..)]
    exact congrArg (x :: ·) (ih fun y hy => this y (List.mem_cons_of_mem _ hy))
end Ti
end Go.Proofs.YtkcipebpknapkaaDoor
