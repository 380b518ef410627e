/-
  Repeated lengths. Plain Lean.
-/
import Derived.Test.YtodgkppjabhhlaaDoorFDig
import Derived.Test.YtodgkppjabhhlaaDoorElem
import Derived.Test.YtodgkppjabhhlaaDoorFOf
namespace Go.Proofs.YtodgkppjabhhlaaDoor
open Go.RowKit Syn Fr

theorem dig_digc (x : Nat) : dig (digc x) = true := by
  unfold dig; rw [digc_nat, Bool.and_eq_true, decide_eq_true_eq, decide_eq_true_eq]
  have := Nat.mod_lt x (show 10 > 0 by decide)
  omega
theorem dgp_dig (n p : Nat) : (dgp n p).all dig = true := by
  unfold dgp; split
  · rw [List.all_cons, dig_digc]; rfl
  · rfl
theorem dg_dig (n : Nat) : (dg n).all dig = true := by
  unfold dg
  simp only [List.all_append, dgp_dig, Bool.true_and, List.all_cons, dig_digc, List.all_nil]
theorem dg_len (n : Nat) : (dg n).length ≤ 5 ∧ 0 < (dg n).length := by
  unfold dg
  simp only [List.length_append, List.length_cons, List.length_nil]
  have := dgp_len n 10000; have := dgp_len n 1000; have := dgp_len n 100; have := dgp_len n 10
  omega
theorem val_step2 {n p : Nat} (m : Nat) (e : m = n / (p * 10)) : valGo m (dgp n p) = n / p := by
  have hdd : n / p / 10 = n / (p * 10) := Nat.div_div_eq_div_mul n p 10
  unfold dgp
  split
  · show 10 * m + ((digc (n / p)).toNat - 48) = n / p
    rw [digc_nat, e, ← hdd]; omega
  · next h =>
    have h0 : n / p = 0 := Nat.div_eq_of_lt (by omega)
    show m = n / p
    rw [e, ← hdd, h0]
theorem dg_val {n : Nat} (hn : n < 100000) : valGo 0 (dg n) = n := by
  unfold dg
  rw [valGo_append, valGo_append, valGo_append, valGo_append]
  rw [val_step2 (n := n) (p := 10000) 0 (by rw [Nat.div_eq_of_lt (by omega)])]
  rw [val_step2 (n := n) (p := 1000) _ rfl]
  rw [val_step2 (n := n) (p := 100) _ rfl]
  rw [val_step2 (n := n) (p := 10) _ rfl]
  show 10 * (n / 10) + ((digc n).toNat - 48) = n
  rw [digc_nat]; omega
theorem dg_number {n : Nat} (hn : n < 100000) : number (dg n) = (n, 0) := by
  unfold number digits
  have h := dg_len n
  rw [dg_dig, isEmpty_pos h.2]
  show (if 15 < (dg n).length then (0, 5) else (valGo 0 (dg n), 0)) = ((n, 0) : Nat × Int)
  rw [if_neg (by omega), dg_val hn]
theorem dg_inj {a b : Nat} (ha : a < 100000) (hb : b < 100000) (h : dg a = dg b) : a = b := by
  rw [← dg_val ha, h, dg_val hb]
theorem dig_not {a : UInt8} (h : dig a = true) : a ≠ 34 ∧ a ≠ 44 ∧ Syn.blank a = false ∧ ctl a = false := by
  unfold dig at h
  rw [Bool.and_eq_true, decide_eq_true_eq, decide_eq_true_eq] at h
  refine ⟨fun e => ?_, fun e => ?_, ?_, ?_⟩
  · rw [e] at h; exact absurd h.1 (by decide)
  · rw [e] at h; exact absurd h.1 (by decide)
  · unfold Syn.blank
    rw [Bool.or_eq_false_iff, beq_eq_false_iff_ne, beq_eq_false_iff_ne]
    exact ⟨fun e => by rw [e] at h; exact absurd h.1 (by decide), fun e => by rw [e] at h; exact absurd h.1 (by decide)⟩
  · unfold ctl ctlN
    simp; omega
theorem dg_inside (n : Nat) : Inside (dg n) := Inside.all _ fun a ha => by
  have := dig_not (List.all_eq_true.1 (dg_dig n) a ha)
  exact ⟨this.1, this.2.1⟩
theorem dg_firm (n : Nat) : Firm (dg n) := by
  have hall : ∀ a ∈ dg n, Syn.blank a = false := fun a ha => (dig_not (List.all_eq_true.1 (dg_dig n) a ha)).2.2.1
  have hne : dg n ≠ [] := fun e => by have := dg_len n; rw [e] at this; simp at this
  refine ⟨?_, (dg n).getLast hne, (dg n).dropLast, (List.dropLast_concat_getLast hne).symm, hall _ (List.getLast_mem hne)⟩
  cases h : dg n with
  | nil => exact absurd h hne
  | cons a r => exact ⟨a, r, rfl, hall a (by rw [h]; simp)⟩
theorem dg_clean (n : Nat) : cln (dg n) = true := by
  unfold cln
  rw [List.all_eq_true]
  intro a ha
  rw [(dig_not (List.all_eq_true.1 (dg_dig n) a ha)).2.2.2]; rfl
/-- A value that reads as m + 1 times the text D; its last element is open. -/
def Open (D v : Bytes) (m : Nat) : Prop := cln v = true ∧ ∃ p out, p.all Syn.blank = true ∧ full out = List.replicate m D ∧ ∀ r, partsGo 44 false [] [] (v ++ r) = partsGo 44 false (p ++ D) out r
theorem Open.first (n : Nat) : Open (dg n) (dg n) 0 := ⟨dg_clean n, [], [], rfl, rfl, fun r => dg_inside n [] r []⟩
theorem full_one {q : Bytes} (h : Firm q) (out : List Bytes) (m : Nat) (ho : full out = List.replicate m q) : full (out ++ [q]) = List.replicate (m + 1) q := by
  unfold full at *
  rw [List.filter_append, ho, List.replicate_succ']
  congr 1
  simp [h.ne]
theorem trim_pre {p q : Bytes} (hp : p.all Syn.blank = true) (hq : Firm q) : trim (p ++ q) = q := by
  have := trim_firm (r := []) hp rfl hq
  rwa [List.append_nil] at this
theorem Open.comma {n m : Nat} {v : Bytes} (h : Open (dg n) v m) : Open (dg n) (v ++ ([44, 32] ++ dg n)) (m + 1) := by
  obtain ⟨hc, p, out, hp, ho, hg⟩ := h
  refine ⟨by rw [clean_append, clean_append, hc, dg_clean]; decide, [32], out ++ [dg n], by decide, full_one (dg_firm n) out m ho, fun r => ?_⟩
  rw [List.append_assoc, hg]
  show partsGo 44 false (p ++ dg n) out (44 :: 32 :: (dg n ++ r)) = _
  rw [go_sep, go_blank (by decide) (by decide), dg_inside, trim_pre hp (dg_firm n)]; rfl
theorem Open.tab {n m : Nat} {v : Bytes} (h : Open (dg n) v m) : Open (dg n) (v ++ ([32, 44, 9] ++ dg n)) (m + 1) := by
  obtain ⟨hc, p, out, hp, ho, hg⟩ := h
  refine ⟨by rw [clean_append, clean_append, hc, dg_clean]; decide, [9], out ++ [dg n], by decide, full_one (dg_firm n) out m ho, fun r => ?_⟩
  rw [List.append_assoc, hg]
  show partsGo 44 false (p ++ dg n) out (32 :: 44 :: 9 :: (dg n ++ r)) = _
  rw [go_blank (by decide) (by decide), go_sep, go_blank (by decide) (by decide), dg_inside, trim_firm (r := [32]) hp (by decide) (dg_firm n)]; rfl
theorem Open.list {n m : Nat} {v : Bytes} (h : Open (dg n) v m) : Syn.list v = some (List.replicate (m + 1) (dg n)) := by
  obtain ⟨hc, p, out, hp, ho, hg⟩ := h
  have h1 := hg []
  rw [List.append_nil, partsGo, if_neg (by decide), trim_pre hp (dg_firm n)] at h1
  unfold Syn.list parts
  rw [if_pos hc, h1]
  exact congrArg some (full_one (dg_firm n) out m ho)
theorem elemsGo_append : ∀ (V : List Bytes) (acc : List Bytes) (v : Bytes), elemsGo acc (V ++ [v]) = match elemsGo acc V with | none => none | some l => (Syn.list v).map (l ++ ·)
  | [], acc, v => by
    show elemsGo acc [v] = _
    rw [elemsGo_cons]
    cases Syn.list v with
    | none => rfl
    | some l => rfl
  | x :: V, acc, v => by
    show elemsGo acc (x :: (V ++ [v])) = _
    rw [elemsGo_cons, elemsGo_cons]
    cases Syn.list x with
    | none => rfl
    | some l => exact elemsGo_append V (acc ++ l) v
def CL : Bytes := [67, 111, 110, 116, 101, 110, 116, 45, 76, 101, 110, 103, 116, 104]
/-- Fields of lengths that read as k times the text D. -/
structure Lens (D : Bytes) (L : List (Bytes × Bytes)) (k : Nat) : Prop where
  names : ∀ p ∈ L, (p.1 = cl ∨ p.1 = CL)
  vals : elemsGo [] (L.map (·.2)) = some (List.replicate k D)
theorem Lens.nil (D : Bytes) : Lens D [] 0 := ⟨by simp, rfl⟩
theorem Lens.push {n k m : Nat} {L : List (Bytes × Bytes)} {v name : Bytes} (h : Lens (dg n) L k) (hv : Open (dg n) v m) (hn : name = cl ∨ name = CL) : Lens (dg n) (L ++ [(name, v)]) (k + (m + 1)) := by
  refine ⟨fun p hp => ?_, ?_⟩
  · rw [List.mem_append, List.mem_singleton] at hp
    rcases hp with hp | rfl
    · exact h.names p hp
    · exact hn
  · rw [List.map_append]
    show elemsGo [] (L.map (·.2) ++ [v]) = _
    rw [elemsGo_append, h.vals, hv.list]
    show some (List.replicate k (dg n) ++ List.replicate (m + 1) (dg n)) = _
    rw [List.replicate_append_replicate]
theorem lower_names {p : Bytes × Bytes} (h : p.1 = cl ∨ p.1 = CL) : Syn.lower p.1 = Syn.lower cl ∧ Syn.lower p.1 ≠ Syn.lower te := by
  rcases h with h | h <;> rw [h] <;> exact ⟨by decide +kernel, by decide +kernel⟩
theorem allV_cl {L : List (Bytes × Bytes)} (h : ∀ p ∈ L, (p.1 = cl ∨ p.1 = CL)) : allV L cl = L.map (·.2) ∧ allV L te = [] := by
  unfold allV
  constructor
  · rw [List.filter_eq_self.2 fun p hp => decide_eq_true (lower_names (h p hp)).1]
  · rw [List.filter_eq_nil_iff.2 fun p hp => by rw [decide_eq_true_eq]; exact (lower_names (h p hp)).2]; rfl
/-- Lengths that are the same. -/
theorem frame_same {n k K : Nat} {L : List (Bytes × Bytes)} (hn : n < 100000) (h : Lens (dg n) L (k + 1)) (hL : L ≠ []) : frame K L = if 65536 < n then ((0, 0), 5) else ((2, n), 0) := by
  obtain ⟨e1, e2⟩ := allV_cl h.names
  have h1 : 0 < (allV L cl).length := by rw [e1, List.length_map]; exact List.length_pos_iff.2 hL
  rw [frame_cl h1 (by rw [e2]; simp), e1, h.vals, List.replicate_succ, frameL_cons, if_pos (by simp)]
  unfold lengthOf
  rw [dg_number hn]; rfl
/-- Another length beside them. -/
theorem frame_other {a b k K : Nat} {L : List (Bytes × Bytes)} (ha : a < 100000) (hb : b < 100000) (hab : a ≠ b) (h : Lens (dg a) L (k + 1)) : frame K (L ++ [(cl, dg b)]) = ((0, 0), 30) := by
  have hnames : ∀ p ∈ L ++ [(cl, dg b)], (p.1 = cl ∨ p.1 = CL) := fun p hp => by
    rw [List.mem_append, List.mem_singleton] at hp
    rcases hp with hp | rfl
    · exact h.names p hp
    · exact .inl rfl
  obtain ⟨e1, e2⟩ := allV_cl hnames
  have h1 : 0 < (allV (L ++ [(cl, dg b)]) cl).length := by rw [e1, List.length_map, List.length_append]; simp
  have hv : elemsGo [] ((L ++ [(cl, dg b)]).map (·.2)) = some (List.replicate (k + 1) (dg a) ++ [dg b]) := by
    rw [List.map_append]
    show elemsGo [] (L.map (·.2) ++ [dg b]) = _
    rw [elemsGo_append, h.vals, (Open.first b).list]; rfl
  rw [frame_cl h1 (by rw [e2]; simp), e1, hv, List.replicate_succ]
  show frameL (some (dg a :: (List.replicate k (dg a) ++ [dg b]))) = _
  rw [frameL_cons, if_neg]
  rw [Bool.not_eq_true, List.all_eq_false]
  exact ⟨dg b, by simp, by simp; exact fun e => hab (dg_inj ha hb e.symm)⟩
end Go.Proofs.YtodgkppjabhhlaaDoor
