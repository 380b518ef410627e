/-
  Layer 1: the document's Quote.
-/
import Derived.Test.YtjcgognngeagiaaDoorQuote
namespace Go.Proofs.YtjcgognngeagiaaDoor
open Go.RowKit Syn

theorem extract_str (s : ByteArray) (a b : Nat) : s.extract a b = str (((bs s).take b).drop a) := by
  apply ByteArray.ext
  rw [ByteArray.data_extract]
  apply Array.ext'
  rw [Array.toList_extract, List.extract_eq_take_drop, ← List.drop_take]
  rfl
theorem extract_one (s : ByteArray) (k : Nat) (h : k < s.size) : s.extract k (k + 1) = str [s[k]] := by
  rw [extract_str, take_at s k h, List.drop_append_of_le_length (by rw [List.length_take, bs_length]; omega), List.drop_of_length_le (by rw [List.length_take, bs_length]; omega)]
  rfl
set_option maxRecDepth 100000 in
set_option maxHeartbeats 2000000 in
theorem rquote_any (s : ByteArray) (w : World) (hs : s.size ≤ 1000000000) :
    Calls Tryd.prog 25 #[.string s] w fun e w' => e = .returned (.tuple #[.string (str (quote (bs s))), .bool (cln (bs s))]) ∧ Below w.heap.size w w' := by
  go_enter Tryd.func25, Tryd.ntmps25
  go_wp2
  go_loopw [4, 5, 8] (fun o _ i wr => ∃ k : Nat, i = .int .i64 k ∧ k ≤ s.size ∧ o = .string (str (34 :: escs ((bs s).take k))) ∧ Hid (Below w.heap.size w wr)) (fun _ _ i _ => s.size - (intOf i).toNat)
  case atStart => exact ⟨0, rfl, by omega, rfl, Below.refl _ _⟩
  case round =>
    obtain ⟨k, rfl, hk, rfl, hB⟩ := hrel
    have hlen := escs_length ((bs s).take k)
    rw [List.length_take, bs_length] at hlen
    obtain ⟨l, hl⟩ : ∃ l, l = 34 :: escs ((bs s).take k) := ⟨_, rfl⟩
    have hl1 : l.length ≤ 2000000001 := by rw [hl, List.length_cons]; omega
    rw [← hl]
    have hBw := hB.out.size
    by_cases hlt : k < s.size
    · have hstep := escs_snoc s k hlt
      have hl2 : Hid (34 :: escs ((bs s).take (k + 1)) = l ++ esc s[k]) := Lib.hid (by rw [hstep, hl]; rfl)
      clear hl hstep hlen
      have hcv := run_byte wr 92
      have hcv : (convert 35 9 (Value.slice (some ⟨wr.heap.size, 0, none⟩) 1 1)).run Tryd.prog (wr.alloc (.cells #[.int .u8 92] 5)) = Result.ok (Value.string (str [92])) (wr.alloc (.cells #[.int .u8 92] 5)) := hcv
      have hx := extract_one s k hlt
      have hsz1 : (str l).size + (str [92]).size ≤ 9223372036854775807 := by rw [str_size, str_size]; simp; omega
      have hsz2 : (str l).size + (str [s[k]]).size ≤ 9223372036854775807 := by rw [str_size, str_size]; simp; omega
      have hsz3 : (str l ++ str [92]).size + (str [s[k]]).size ≤ 9223372036854775807 := by rw [str_append, str_size, str_size]; simp; omega
      have q1 := Lib.hid (show str l ++ str [92] ++ str [s[k]] = str (l ++ [92, s[k]]) by rw [str_append, str_append, List.append_assoc]; rfl)
      have q2 := Lib.hid (str_append l [s[k]])
      by_cases h34 : s[k].toNat = 34
      · have hb : ((s[k].toNat : Int) == 34) = true := u8_beq_true h34
        have he : Hid (esc s[k] = [92, s[k]]) := Lib.hid (by unfold esc; rw [if_pos (.inl (u8_iff.2 h34))])
        clear h34
        go_wp2
        go_roundw
        case rel => exact ⟨k + 1, by go_num, by omega, by rw [hl2.out, he.out, q1.out], Lib.hid (hB.out.alloc hBw _)⟩
        case measure => simp [intOf]; omega
      · have hb : ((s[k].toNat : Int) == 34) = false := beq_cast_false h34
        by_cases h92 : s[k].toNat = 92
        · have hb2 : ((s[k].toNat : Int) == 92) = true := u8_beq_true h92
          have he : Hid (esc s[k] = [92, s[k]]) := Lib.hid (by unfold esc; rw [if_pos (.inr (u8_iff.2 h92))])
          clear h34 h92
          go_wp2
          go_roundw
          case rel => exact ⟨k + 1, by go_num, by omega, by rw [hl2.out, he.out, q1.out], Lib.hid (hB.out.alloc hBw _)⟩
          case measure => simp [intOf]; omega
        · have hb2 : ((s[k].toNat : Int) == 92) = false := beq_cast_false h92
          have he : Hid (esc s[k] = [s[k]]) := Lib.hid (by unfold esc; rw [if_neg]; rintro (h | h); exact h34 (u8_iff.1 h); exact h92 (u8_iff.1 h))
          clear h34 h92
          go_wp2
          go_roundw
          case rel => exact ⟨k + 1, by go_num, by omega, by rw [hl2.out, he.out, q2.out], hB⟩
          case measure => simp [intOf]; omega
    · obtain rfl : k = s.size := by omega
      have hq : Hid (str (quote (bs s)) = str l ++ str [34]) := Lib.hid (by rw [str_append, hl, take_all]; rfl)
      have hsz : (str l).size + (str [34]).size ≤ 9223372036854775807 := by rw [str_size, str_size]; simp; omega
      clear hl hlen
      have e34 : (⟨#[34]⟩ : ByteArray) = str [34] := rfl
      go_wp2_with (go_at_call 37; refine (rcontrol_any s _ (by unfold maxLen; omega)).mono ?_; rintro e w' ⟨rfl, rfl⟩)
      go_ret2
      exact ⟨by rw [hq.out]; simp, hB.out⟩
end Go.Proofs.YtjcgognngeagiaaDoor
