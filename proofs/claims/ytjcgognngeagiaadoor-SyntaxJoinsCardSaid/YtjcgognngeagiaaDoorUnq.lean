/-
  Layer 1: Unquote, the code's and the document's.
-/
import Derived.Test.YtjcgognngeagiaaDoorRQuote
namespace Go.Proofs.YtjcgognngeagiaaDoor
open Go.RowKit Syn

def unqV (o : Option (List UInt8)) : Value := .tuple #[.string (str (o.getD [])), errV (if o.isSome then 0 else 2)]
def unqR (o : Option (List UInt8)) : Value := .tuple #[.string (str (o.getD [])), .bool o.isSome]
section
variable {s : ByteArray} {k : Nat} {acc : List UInt8}
theorem unqGo_cons (c : UInt8) (r : List UInt8) : unqGo acc (c :: r) = if c = 34 then (if r.isEmpty then some acc else none) else if c = 92 then (match r with | [] => none | d :: r' => unqGo (acc ++ [d]) r') else unqGo (acc ++ [c]) r := by
  rw [unqGo.eq_def]; rfl
theorem unq_end (h : s.size ≤ k) : unqGo acc ((bs s).drop k) = none := by
  rw [List.drop_of_length_le (by rw [bs_length]; exact h)]; rfl
theorem drop_empty (h : k ≤ s.size) : ((bs s).drop k).isEmpty = decide (k = s.size) := by
  have : ((bs s).drop k).length = s.size - k := by rw [List.length_drop, bs_length]
  by_cases hk : k = s.size
  · rw [List.eq_nil_of_length_eq_zero (l := (bs s).drop k) (by omega)]; simp [hk]
  · cases hd : (bs s).drop k with
    | nil => rw [hd] at this; simp at this; omega
    | cons => simp [hk]
theorem unq_q (h : k < s.size) (hc : s[k].toNat = 34) : unqGo acc ((bs s).drop k) = if k + 1 = s.size then some acc else none := by
  have h34 : s[k] = 34 := u8_iff.2 hc
  rw [drop_at s k h, unqGo_cons, if_pos h34, drop_empty (by omega)]
  by_cases hk : k + 1 = s.size <;> simp [hk]
theorem unq_b (h : k < s.size) (hc : s[k].toNat = 92) (h2 : k + 1 = s.size) : unqGo acc ((bs s).drop k) = none := by
  have h92 : s[k] = 92 := u8_iff.2 hc
  have h34 : s[k] ≠ 34 := by rw [h92]; decide
  rw [drop_at s k h, unqGo_cons, if_neg h34, if_pos h92, List.drop_of_length_le (by rw [bs_length]; omega)]
theorem unq_b2 (h : k < s.size) (hc : s[k].toNat = 92) (h2 : k + 1 < s.size) : unqGo acc ((bs s).drop k) = unqGo (acc ++ [s[k + 1]]) ((bs s).drop (k + 1 + 1)) := by
  have h92 : s[k] = 92 := u8_iff.2 hc
  have h34 : s[k] ≠ 34 := by rw [h92]; decide
  rw [drop_at s k h, unqGo_cons, if_neg h34, if_pos h92, drop_at s (k + 1) h2]
theorem unq_o (h : k < s.size) (h1 : s[k].toNat ≠ 34) (h2 : s[k].toNat ≠ 92) : unqGo acc ((bs s).drop k) = unqGo (acc ++ [s[k]]) ((bs s).drop (k + 1)) := by
  rw [drop_at s k h, unqGo_cons, if_neg (fun h => h1 (u8_iff.1 h)), if_neg (fun h => h2 (u8_iff.1 h))]
theorem unq_no (h : cln (bs s) = false ∨ s.size < 2) : unq (bs s) = none := by
  unfold unq
  rcases h with h | h
  · rw [h]; rfl
  · have : decide (2 ≤ (bs s).length) = false := by rw [bs_length]; simp; omega
    rw [this]; simp
theorem head_bs (h : 0 < s.size) : (bs s).head? = some s[0] := by
  rw [List.head?_eq_getElem?, byte_at s 0 h]
theorem unq_no0 (h : 0 < s.size) (h0 : s[0].toNat ≠ 34) : unq (bs s) = none := by
  unfold unq
  rw [head_bs h]
  have : decide (some s[0] = some (34 : UInt8)) = false := by
    simp only [decide_eq_false_iff_not, Option.some.injEq]; exact fun h => h0 (u8_iff.1 h)
  rw [this]; simp
theorem unq_yes (h : cln (bs s) = true) (h2 : 2 ≤ s.size) (h0 : s[0].toNat = 34) : unq (bs s) = unqGo [] ((bs s).drop 1) := by
  unfold unq
  rw [head_bs (by omega), h]
  have e : s[0] = 34 := u8_iff.2 h0
  have : decide (2 ≤ (bs s).length) = true := by rw [bs_length]; simp [h2]
  rw [this, e]; simp
end
set_option maxRecDepth 100000 in
set_option maxHeartbeats 2000000 in
theorem unquote_any (s : ByteArray) (w : World) (hs : s.size ≤ 5000000000) :
    Calls Tryd.prog 21 #[.string s] w fun e w' => e = .returned (unqV (unq (bs s))) ∧ Below w.heap.size w w' := by
  by_cases h2 : s.size < 2
  · rw [unq_no (.inr h2)]
    go_enter Tryd.func21, Tryd.ntmps21
    go_wp2
    go_ret2
    exact ⟨rfl, Below.refl _ _⟩
  have h2' : 2 ≤ s.size := by omega
  clear h2
  have hd2 : decide ((s.size : Int) < 2) = false := by simp; omega
  by_cases h0 : s[0].toNat = 34
  · have hb0 : ((s[0].toNat : Int) != 34) = false := by simp; omega
    cases hc : cln (bs s)
    · rw [unq_no (.inl hc)]
      clear h0
      go_enter Tryd.func21, Tryd.ntmps21
      go_wp2_with (go_at_call 36; refine (clean_any s _ (by unfold maxLen; omega)).mono ?_; rintro e w' ⟨rfl, rfl⟩; rw [hc])
      go_ret2
      exact ⟨rfl, Below.refl _ _⟩
    · have hU := Lib.hid (unq_yes hc (by omega) h0)
      clear h0
      go_enter Tryd.func21, Tryd.ntmps21
      go_wp2_with (go_at_call 36; refine (clean_any s _ (by unfold maxLen; omega)).mono ?_; rintro e w' ⟨rfl, rfl⟩; rw [hc])
      go_loopw [4, 5] (fun o i wr => ∃ (k : Nat) (acc : List UInt8), i = .int .i64 k ∧ k ≤ s.size ∧ Hid (acc.length ≤ k) ∧ Hid (Own wr w'.heap.size 5 1 o acc.length (u8s acc)) ∧ Hid (unq (bs s) = unqGo acc ((bs s).drop k)) ∧ Hid (Below w'.heap.size w' wr)) (fun _ i _ => s.size - (intOf i).toNat)
      case atStart => exact ⟨1, [], rfl, by omega, by simp [Hid], own_nil _ _ _ _, hU, Below.refl _ _⟩
      case round =>
        obtain ⟨k, acc, rfl, hk, hlen, ho, hU, hB⟩ := hrel
        have hBw := hB.out.size
        have hlen' : acc.length ≤ 5000000000 := by have := hlen.out; omega
        by_cases hlt : k < s.size
        · by_cases h34 : s[k].toNat = 34
          · have hb : ((s[k].toNat : Int) == 34) = true := u8_beq_true h34
            have hr := hU.out.trans (unq_q hlt h34)
            clear h34
            by_cases he : k + 1 = s.size
            · rw [if_pos he] at hr
              have hr := Lib.hid hr
              have hcv := run_own_str ho.out
              go_wp2
              go_ret2
              exact ⟨by rw [hr.out]; rfl, hB.out⟩
            · rw [if_neg he] at hr
              have hr := Lib.hid hr
              have he' : k + 1 < s.size := by omega
              clear he
              go_wp2
              go_ret2
              exact ⟨by rw [hr.out]; rfl, hB.out⟩
          · have hb : ((s[k].toNat : Int) == 34) = false := beq_cast_false h34
            by_cases h92 : s[k].toNat = 92
            · have hb2 : ((s[k].toNat : Int) == 92) = true := u8_beq_true h92
              by_cases he : k + 1 = s.size
              · have hr := Lib.hid (hU.out.trans (unq_b hlt h92 he))
                have hbe : (((k : Int) + 1) == (s.size : Int)) = true := by simp; omega
                clear h34 h92
                go_wp2
                go_ret2
                exact ⟨by rw [hr.out]; rfl, hB.out⟩
              · have he' : k + 1 < s.size := by omega
                have hr := Lib.hid (hU.out.trans (unq_b2 hlt h92 he'))
                have hbe : (((k : Int) + 1) == (s.size : Int)) = false := by simp; omega
                clear h34 h92 he
                go_wp2_with (at_builtin; refine push_u8 _ _ rfl rfl rfl ho.out rfl rfl (by omega) hBw ?_; intro v1 w1 ho1 hb1; replace ho1 := Lib.hid ho1; have hB1 := Lib.hid (hB.out.trans hb1); clear hb1)
                go_roundw
                case rel =>
                  refine ⟨k + 1 + 1, acc ++ [s[k + 1]], by go_num, by omega, Lib.hid ?_, Lib.hid ?_, hr, hB1⟩
                  · have := hlen.out; simp; omega
                  · rw [u8s_snoc]; simpa using ho1.out
                case measure => simp [intOf]; omega
            · have hb2 : ((s[k].toNat : Int) == 92) = false := beq_cast_false h92
              have hr := Lib.hid (hU.out.trans (unq_o hlt h34 h92))
              clear h34 h92
              go_wp2_with (at_builtin; refine push_u8 _ _ rfl rfl rfl ho.out rfl rfl (by omega) hBw ?_; intro v1 w1 ho1 hb1; replace ho1 := Lib.hid ho1; have hB1 := Lib.hid (hB.out.trans hb1); clear hb1)
              go_roundw
              case rel =>
                refine ⟨k + 1, acc ++ [s[k]], by go_num, by omega, Lib.hid ?_, Lib.hid ?_, hr, hB1⟩
                · have := hlen.out; simp; omega
                · rw [u8s_snoc]; simpa using ho1.out
              case measure => simp [intOf]; omega
        · have hr := Lib.hid (hU.out.trans (unq_end (by omega)))
          go_wp2
          go_ret2
          exact ⟨by rw [hr.out]; rfl, hB.out⟩
  · rw [unq_no0 (by omega) h0]
    have hb0 : ((s[0].toNat : Int) != 34) = true := by simp; omega
    clear h0
    go_enter Tryd.func21, Tryd.ntmps21
    go_wp2
    go_ret2
    exact ⟨rfl, Below.refl _ _⟩
end Go.Proofs.YtjcgognngeagiaaDoor
