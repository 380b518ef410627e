/-
  Layer 1: the parts between separators, the code's.
-/
import Derived.Test.YtemlnmelicnneaaDoorTrim
namespace Go.Proofs.YtemlnmelicnneaaDoor
open Go.RowKit Syn

theorem trimR_cons (c : UInt8) (l : List UInt8) : trimR (c :: l) = if trimR l = [] then (if Syn.blank c then [] else [c]) else c :: trimR l := by
  unfold trimR
  rw [List.reverse_cons, List.dropWhile_append]
  by_cases h : (l.reverse.dropWhile Syn.blank).isEmpty
  · rw [if_pos h, if_pos (by rw [List.isEmpty_iff] at h; rw [h]; rfl)]
    rw [List.dropWhile_cons]
    split <;> simp
  · rw [if_neg h, if_neg (by rw [List.isEmpty_iff] at h; simpa using h)]
    simp
theorem trim_comm : ∀ l : List UInt8, trimL (trimR l) = trimR (trimL l)
  | [] => rfl
  | c :: l => by
    have ih := trim_comm l
    rw [trimR_cons]
    by_cases hb : Syn.blank c = true
    · have e : trimL (c :: l) = trimL l := by unfold trimL; rw [List.dropWhile_cons, if_pos hb]
      rw [e]
      by_cases h : trimR l = []
      · rw [if_pos h, if_pos hb, ← ih, h]
      · rw [if_neg h, ← ih]
        unfold trimL; rw [List.dropWhile_cons, if_pos hb]
    · have e : ∀ r, trimL (c :: r) = c :: r := fun r => by unfold trimL; rw [List.dropWhile_cons, if_neg hb]
      rw [e l, trimR_cons]
      by_cases h : trimR l = []
      · rw [if_pos h, if_neg hb]; exact e []
      · rw [if_neg h]; exact e _
theorem trimS_eq (l : List UInt8) : Lib.trimS l [32, 9] = trim l := by
  have hp : (fun b : UInt8 => ([32, 9] : List UInt8).contains b) = Syn.blank := by
    funext b
    unfold Syn.blank
    simp only [List.contains, List.elem]
    cases (b == 32) <;> cases (b == 9) <;> rfl
  unfold Lib.trimS Lib.trimLeftS Lib.trimRightS
  rw [hp, trim_eq, ← trim_comm]
  rfl
theorem trim_any (s : ByteArray) (w : World) (hs : s.size ≤ 9223372036854775807) :
    Calls Tryd.prog 66 #[.string s, .string ⟨#[32, 9]⟩] w fun e w' => e = .returned (.string (str (trim (bs s)))) ∧ Below w.heap.size w w' := by
  have hcon := Any.strings_Trim_laid Tryd.lays160 (by kernel_rfl) s ⟨#[32, 9]⟩ w hs (by decide) (ascii_of_all (by decide))
  refine hcon.mono ?_
  rintro e w' ⟨rfl, hb⟩
  exact ⟨congrArg (fun l => Ending.returned (.string (str l))) (trimS_eq (bs s)), hb⟩

def PartsOut (w : World) (B : Nat) (v : Value) : Option (List (List UInt8)) → Prop
  | none => v = .slice none 0 0
  | some l => Own w B 9 1 v l.length (strs l)
theorem partsGo_cons (b : UInt8) (q : Bool) (cur : List UInt8) (out : List (List UInt8)) (c : UInt8) (r : List UInt8) : partsGo b q cur out (c :: r) =
    if q && decide (c = 92) then (match r with | [] => none | d :: r' => partsGo b q (cur ++ [c, d]) out r')
    else if c = 34 then partsGo b (!q) (cur ++ [c]) out r
    else if !q && decide (c = b) then partsGo b q [] (out ++ [trim cur]) r
    else partsGo b q (cur ++ [c]) out r := by
  rw [partsGo.eq_def]; rfl
/-- The current part. -/
def cur (s : ByteArray) (f k : Nat) : List UInt8 := ((bs s).take k).drop f
section
variable {s : ByteArray} {f k : Nat} {b : UInt8} {q : Bool} {out : List (List UInt8)}
theorem cur_step (h : k < s.size) (hf : f ≤ k) : cur s f (k + 1) = cur s f k ++ [s[k]] := by
  unfold cur
  rw [take_at s k h, List.drop_append_of_le_length (by rw [List.length_take, bs_length]; omega)]
theorem cur_new : cur s (k + 1) (k + 1) = [] := by
  unfold cur
  rw [List.drop_of_length_le (by rw [List.length_take]; omega)]
theorem pt_esc (h : k < s.size) (hf : f ≤ k) (hc : s[k].toNat = 92) : partsGo b true (cur s f k) out ((bs s).drop k) = partsGo b true (cur s f (k + 1 + 1)) out ((bs s).drop (k + 1 + 1)) := by
  have h92 : s[k] = 92 := u8_iff.2 hc
  rw [drop_at s k h, partsGo_cons, if_pos (by simp [h92])]
  by_cases he : k + 1 < s.size
  · rw [drop_at s (k + 1) he, cur_step he (by omega), cur_step h hf, List.append_assoc]; rfl
  · rw [List.drop_of_length_le (by rw [bs_length]; omega), List.drop_of_length_le (by rw [bs_length]; omega)]
    rw [partsGo]; rfl
theorem pt_quote (h : k < s.size) (hf : f ≤ k) (hc : s[k].toNat = 34) : partsGo b q (cur s f k) out ((bs s).drop k) = partsGo b (!q) (cur s f (k + 1)) out ((bs s).drop (k + 1)) := by
  have h34 : s[k] = 34 := u8_iff.2 hc
  have hn : (q && decide (s[k] = 92)) = false := by rw [h34]; cases q <;> decide
  rw [drop_at s k h, partsGo_cons, hn, cur_step h hf]; simp [h34]
theorem pt_sep (h : k < s.size) (hc : s[k].toNat ≠ 34) (hs : s[k].toNat = b.toNat) : partsGo b false (cur s f k) out ((bs s).drop k) = partsGo b false (cur s (k + 1) (k + 1)) (out ++ [trim (cur s f k)]) ((bs s).drop (k + 1)) := by
  have hb : s[k] = b := u8_iff.2 hs
  have h34 : s[k] ≠ 34 := fun h => hc (u8_iff.1 h)
  rw [drop_at s k h, partsGo_cons, cur_new]
  rw [if_neg (by simp), if_neg h34, if_pos (by simp [hb])]
theorem pt_other (h : k < s.size) (hf : f ≤ k) (h1 : s[k].toNat ≠ 34) (h2 : q = true → s[k].toNat ≠ 92) (h3 : q = false → s[k].toNat ≠ b.toNat) : partsGo b q (cur s f k) out ((bs s).drop k) = partsGo b q (cur s f (k + 1)) out ((bs s).drop (k + 1)) := by
  have h34 : s[k] ≠ 34 := fun h => h1 (u8_iff.1 h)
  have hn : (q && decide (s[k] = 92)) = false := by
    cases q
    · rfl
    · have : s[k] ≠ 92 := fun h => h2 rfl (u8_iff.1 h)
      simp [this]
  have hm : (!q && decide (s[k] = b)) = false := by
    cases q
    · have : s[k] ≠ b := fun h => h3 rfl (u8_iff.1 h)
      simp [this]
    · rfl
  rw [drop_at s k h, partsGo_cons, hn, if_neg h34, hm, cur_step h hf]; simp
theorem pt_end (h : s.size ≤ k) : partsGo b q (cur s f k) out ((bs s).drop k) = if q then none else some (out ++ [trim ((bs s).drop f)]) := by
  rw [List.drop_of_length_le (by rw [bs_length]; exact h)]
  unfold cur
  rw [List.take_of_length_le (by rw [bs_length]; exact h), partsGo]
theorem extract_cur : bs (s.extract f k) = cur s f k := by rw [extract_str, bs_str]; rfl
theorem extract_rest : bs (s.extract f s.size) = (bs s).drop f := by rw [extract_str, bs_str, take_all]
theorem extract_le (s : ByteArray) (a b : Nat) : (s.extract a b).size ≤ s.size := by rw [← bs_length, extract_str, bs_str, List.length_drop, List.length_take, bs_length]; omega
end
end Go.Proofs.YtemlnmelicnneaaDoor
