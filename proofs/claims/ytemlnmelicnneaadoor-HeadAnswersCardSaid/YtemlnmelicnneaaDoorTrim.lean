/-
  Layer 1: Trim of blanks and tabs, the code's and the document's.
-/
import Derived.Test.YtemlnmelicnneaaDoorRUnq
namespace Go.Proofs.YtemlnmelicnneaaDoor
open Go.RowKit Syn

def sizeV : Value → Nat
  | .string s => s.size
  | _ => 0
def trimR (l : List UInt8) : List UInt8 := (l.reverse.dropWhile Syn.blank).reverse
theorem trim_eq (l : List UInt8) : trim l = trimR (trimL l) := rfl
theorem blank_iff (c : UInt8) : Syn.blank c = (decide (c.toNat = 32) || decide (c.toNat = 9)) := by
  unfold Syn.blank
  have h1 : (c == 32) = decide (c.toNat = 32) := by rw [Bool.eq_iff_iff]; simp [u8_iff]
  have h2 : (c == 9) = decide (c.toNat = 9) := by rw [Bool.eq_iff_iff]; simp [u8_iff]
  rw [h1, h2]
theorem trimL_step {s : ByteArray} (h : 0 < s.size) (hb : Syn.blank s[0] = true) : trimL (bs s) = trimL ((bs s).drop 1) := by
  have := drop_at s 0 h
  rw [List.drop_zero] at this
  conv => lhs; rw [this]
  unfold trimL; rw [List.dropWhile_cons, if_pos hb]
theorem trimL_stop {s : ByteArray} (h : s.size = 0 ∨ ∃ h : 0 < s.size, Syn.blank s[0] = false) : trimL (bs s) = bs s := by
  rcases h with h | ⟨h, hb⟩
  · have : bs s = [] := List.eq_nil_of_length_eq_zero (by rw [bs_length]; exact h)
    rw [this]; rfl
  · have := drop_at s 0 h
    rw [List.drop_zero] at this
    rw [this]; unfold trimL; rw [List.dropWhile_cons, hb]; simp
theorem last_split {s : ByteArray} (h : 0 < s.size) : bs s = (bs s).take (s.size - 1) ++ [s[s.size - 1]] := by
  have := take_at s (s.size - 1) (by omega)
  rw [show s.size - 1 + 1 = s.size by omega, take_all] at this
  exact this
theorem trimR_step {s : ByteArray} (h : 0 < s.size) (hb : Syn.blank s[s.size - 1] = true) : trimR (bs s) = trimR ((bs s).take (s.size - 1)) := by
  conv => lhs; rw [last_split h]
  unfold trimR; rw [List.reverse_append, List.reverse_singleton, List.singleton_append, List.dropWhile_cons, if_pos hb]
theorem trimR_stop {s : ByteArray} (h : s.size = 0 ∨ ∃ h : 0 < s.size, Syn.blank s[s.size - 1] = false) : trimR (bs s) = bs s := by
  rcases h with h | ⟨h, hb⟩
  · have : bs s = [] := List.eq_nil_of_length_eq_zero (by rw [bs_length]; exact h)
    rw [this]; rfl
  · have e := last_split h
    unfold trimR
    have : (bs s).reverse = s[s.size - 1] :: ((bs s).take (s.size - 1)).reverse := by
      conv => lhs; rw [e]
      rw [List.reverse_append, List.reverse_singleton, List.singleton_append]
    rw [this, List.dropWhile_cons, hb]
    simp only [Bool.false_eq_true, if_false]
    rw [← this, List.reverse_reverse]
theorem extract_tail (s : ByteArray) : bs (s.extract 1 s.size) = (bs s).drop 1 := by rw [extract_str, bs_str, take_all]
theorem extract_init (s : ByteArray) : bs (s.extract 0 (s.size - 1)) = (bs s).take (s.size - 1) := by rw [extract_str, bs_str, List.drop_zero]
theorem extract_size1 (s : ByteArray) : (s.extract 1 s.size).size = s.size - 1 := by rw [← bs_length, extract_tail, List.length_drop, bs_length]
theorem extract_size2 (s : ByteArray) : (s.extract 0 (s.size - 1)).size = s.size - 1 := by rw [← bs_length, extract_init, List.length_take, bs_length]; omega
set_option maxRecDepth 100000 in
set_option maxHeartbeats 2000000 in
theorem rtrim_any (s : ByteArray) (w : World) (hs : s.size ≤ maxLen) :
    Calls Tryd.prog 70 #[.string s] w fun e w' => e = .returned (.string (str (trim (bs s)))) ∧ w' = w := by
  unfold maxLen at hs
  rw [trim_eq]
  go_enter Tryd.func70, Tryd.ntmps70
  go_wp2
  go_loop [0] (fun v => ∃ t : ByteArray, v = .string t ∧ t.size ≤ s.size ∧ Hid (trimL (bs t) = trimL (bs s))) (fun v => sizeV v)
  case atStart => exact ⟨s, rfl, Nat.le_refl _, rfl⟩
  case round =>
    obtain ⟨t, rfl, ht, hT⟩ := hrel
    by_cases h0 : 0 < t.size
    · have hd : decide ((0 : Int) < (t.size : Int)) = true := by simp; omega
      have hsz := extract_size1 t
      by_cases h1 : t[0].toNat = 32
      · have hb1 : ((t[0].toNat : Int) == 32) = true := u8_beq_true h1
        have hn := Lib.hid (trimL_step h0 (by rw [blank_iff, h1]; rfl))
        have hx := Lib.hid (extract_tail t)
        clear h1
        go_wp2
        go_round
        case rel => exact ⟨_, rfl, by omega, Lib.hid (by rw [hx.out, ← hn.out, hT.out])⟩
        case measure => simp [sizeV]; omega
      · have hb1 : ((t[0].toNat : Int) == 32) = false := beq_cast_false h1
        by_cases h2 : t[0].toNat = 9
        · have hb2 : ((t[0].toNat : Int) == 9) = true := u8_beq_true h2
          have hn := Lib.hid (trimL_step h0 (by rw [blank_iff, h2]; rfl))
          have hx := Lib.hid (extract_tail t)
          clear h1 h2
          go_wp2
          go_round
          case rel => exact ⟨_, rfl, by omega, Lib.hid (by rw [hx.out, ← hn.out, hT.out])⟩
          case measure => simp [sizeV]; omega
        · have hb2 : ((t[0].toNat : Int) == 9) = false := beq_cast_false h2
          have hE : Hid (trimR (bs t) = trimR (trimL (bs s))) := Lib.hid (by rw [← hT.out, trimL_stop (.inr ⟨h0, by rw [blank_iff]; simp [h1, h2]⟩)])
          clear h1 h2
          go_wp2
          clear hd hb1 hb2 hsz
          go_loop [0] (fun v => ∃ u : ByteArray, v = .string u ∧ u.size ≤ s.size ∧ Hid (trimR (bs u) = trimR (trimL (bs s)))) (fun v => sizeV v)
          case atStart => exact ⟨t, rfl, ht, hE⟩
          case round =>
            obtain ⟨u, rfl, hu, hU⟩ := hrel
            by_cases h0 : 0 < u.size
            · have hd : decide ((0 : Int) < (u.size : Int)) = true := by simp; omega
              have ht1 : ((u.size : Int) - 1).toNat = u.size - 1 := by omega
              have hsz := extract_size2 u
              by_cases h1 : u[u.size - 1].toNat = 32
              · have hb1 : ((u[u.size - 1].toNat : Int) == 32) = true := u8_beq_true h1
                have hn := Lib.hid (trimR_step h0 (by rw [blank_iff, h1]; rfl))
                have hx := Lib.hid (extract_init u)
                go_wp2
                go_round
                case rel => exact ⟨_, rfl, by omega, Lib.hid (by rw [hx.out, ← hn.out, hU.out])⟩
                case measure => simp [sizeV]; omega
              · have hb1 : ((u[u.size - 1].toNat : Int) == 32) = false := beq_cast_false h1
                by_cases h2 : u[u.size - 1].toNat = 9
                · have hb2 : ((u[u.size - 1].toNat : Int) == 9) = true := u8_beq_true h2
                  have hn := Lib.hid (trimR_step h0 (by rw [blank_iff, h2]; rfl))
                  have hx := Lib.hid (extract_init u)
                  go_wp2
                  go_round
                  case rel => exact ⟨_, rfl, by omega, Lib.hid (by rw [hx.out, ← hn.out, hU.out])⟩
                  case measure => simp [sizeV]; omega
                · have hb2 : ((u[u.size - 1].toNat : Int) == 9) = false := beq_cast_false h2
                  have hr : Hid (trimR (trimL (bs s)) = bs u) := Lib.hid (by rw [← hU.out]; exact trimR_stop (.inr ⟨h0, by rw [blank_iff]; simp [h1, h2]⟩))
                  go_wp2
                  go_ret
                  exact ⟨by rw [hr.out, str_bs]; rfl, rfl⟩
            · have hd : decide ((0 : Int) < (u.size : Int)) = false := by rw [decide_eq_false_iff_not]; omega
              have hr : Hid (trimR (trimL (bs s)) = bs u) := Lib.hid (by rw [← hU.out]; exact trimR_stop (.inl (by omega)))
              go_wp2
              go_ret
              exact ⟨by rw [hr.out, str_bs]; rfl, rfl⟩
    · have hd : decide ((0 : Int) < (t.size : Int)) = false := by rw [decide_eq_false_iff_not]; omega
      have hE : Hid (trimR (bs t) = trimR (trimL (bs s))) := Lib.hid (by rw [← hT.out, trimL_stop (.inl (by omega))])
      go_wp2
      clear hd h0
      go_loop [0] (fun v => ∃ u : ByteArray, v = .string u ∧ u.size ≤ s.size ∧ Hid (trimR (bs u) = trimR (trimL (bs s)))) (fun v => sizeV v)
      case atStart => exact ⟨t, rfl, ht, hE⟩
      case round =>
        obtain ⟨u, rfl, hu, hU⟩ := hrel
        by_cases h0 : 0 < u.size
        · have hd : decide ((0 : Int) < (u.size : Int)) = true := by simp; omega
          have ht1 : ((u.size : Int) - 1).toNat = u.size - 1 := by omega
          have hsz := extract_size2 u
          by_cases h1 : u[u.size - 1].toNat = 32
          · have hb1 : ((u[u.size - 1].toNat : Int) == 32) = true := u8_beq_true h1
            have hn := Lib.hid (trimR_step h0 (by rw [blank_iff, h1]; rfl))
            have hx := Lib.hid (extract_init u)
            go_wp2
            go_round
            case rel => exact ⟨_, rfl, by omega, Lib.hid (by rw [hx.out, ← hn.out, hU.out])⟩
            case measure => simp [sizeV]; omega
          · have hb1 : ((u[u.size - 1].toNat : Int) == 32) = false := beq_cast_false h1
            by_cases h2 : u[u.size - 1].toNat = 9
            · have hb2 : ((u[u.size - 1].toNat : Int) == 9) = true := u8_beq_true h2
              have hn := Lib.hid (trimR_step h0 (by rw [blank_iff, h2]; rfl))
              have hx := Lib.hid (extract_init u)
              go_wp2
              go_round
              case rel => exact ⟨_, rfl, by omega, Lib.hid (by rw [hx.out, ← hn.out, hU.out])⟩
              case measure => simp [sizeV]; omega
            · have hb2 : ((u[u.size - 1].toNat : Int) == 9) = false := beq_cast_false h2
              have hr : Hid (trimR (trimL (bs s)) = bs u) := Lib.hid (by rw [← hU.out]; exact trimR_stop (.inr ⟨h0, by rw [blank_iff]; simp [h1, h2]⟩))
              go_wp2
              go_ret
              exact ⟨by rw [hr.out, str_bs]; rfl, rfl⟩
        · have hd : decide ((0 : Int) < (u.size : Int)) = false := by rw [decide_eq_false_iff_not]; omega
          have hr : Hid (trimR (trimL (bs s)) = bs u) := Lib.hid (by rw [← hU.out]; exact trimR_stop (.inl (by omega)))
          go_wp2
          go_ret
          exact ⟨by rw [hr.out, str_bs]; rfl, rfl⟩
end Go.Proofs.YtemlnmelicnneaaDoor
