/-
  Layer 1: Quote and Unquote, the code's and the document's.
-/
import Derived.Test.YtjcgognngeagiaaDoorLow
import Derived.Test.YtjcgognngeagiaaDoorPush
namespace Go.Proofs.YtjcgognngeagiaaDoor
open Go.RowKit Syn

theorem own_new (w : World) (B : Nat) (e : TypeId) (u : Value) (hB : B ≤ w.heap.size) : Own (w.alloc (.cells #[u] e)) B e 1 (.slice (some ⟨w.heap.size, 0, none⟩) 1 1) 1 [u] :=
  ⟨rfl, .inr ⟨w.heap.size, 1, #[u], rfl, hB, heap_alloc_new w _, Nat.le_refl _, by decide, rfl, rfl⟩⟩
theorem u8_iff {c d : UInt8} : c = d ↔ c.toNat = d.toNat := ⟨fun h => by rw [h], fun h => UInt8.toNat_inj.1 h⟩
theorem u8_beq_true {c : UInt8} {n : Nat} (h : c.toNat = n) : ((c.toNat : Int) == (n : Int)) = true := beq_cast_true h
theorem escs_snoc (s : ByteArray) (k : Nat) (h : k < s.size) : escs ((bs s).take (k + 1)) = escs ((bs s).take k) ++ esc s[k] := by
  rw [take_at s k h]; simp [escs]
theorem esc_le (c : UInt8) : (esc c).length ≤ 2 := by unfold esc; split <;> simp
theorem escs_length (l : List UInt8) : (escs l).length ≤ 2 * l.length := by
  induction l with
  | nil => decide
  | cons c l ih =>
    have := esc_le c
    have e : escs (c :: l) = esc c ++ escs l := by simp [escs]
    rw [e, List.length_append, List.length_cons]; omega
set_option maxHeartbeats 1000000 in
theorem quote_no (s : ByteArray) (w : World) (hs : s.size ≤ maxLen) (hc : cln (bs s) = false) :
    Calls Tryd.prog 20 #[.string s] w fun e w' => e = .returned (.tuple #[.string ⟨#[]⟩, errV 2]) ∧ w' = w := by
  go_enter Tryd.func20, Tryd.ntmps20
  go_wp2_with fail
  refine (clean_any s _ hs).mono ?_
  rintro e w' ⟨rfl, rfl⟩
  rw [hc]
  go_wp2
  go_ret2
  exact ⟨rfl, rfl⟩
set_option maxRecDepth 100000 in
set_option maxHeartbeats 2000000 in
theorem quote_ok (s : ByteArray) (w : World) (hs : s.size ≤ 1000000000) (hc : cln (bs s) = true) :
    Calls Tryd.prog 20 #[.string s] w fun e w' => e = .returned (.tuple #[.string (str (quote (bs s))), errV 0]) ∧ Below w.heap.size w w' := by
  go_enter Tryd.func20, Tryd.ntmps20
  go_wp2_with fail
  refine (clean_any s _ (by unfold maxLen; omega)).mono ?_
  rintro e w' ⟨rfl, rfl⟩
  rw [hc]
  go_wp2
  have hn0 := own_new w' w'.heap.size 5 (.int .u8 34) (Nat.le_refl _)
  go_loopw [4, 5, 13] (fun o _ i wr => ∃ k : Nat, i = .int .i64 k ∧ k ≤ s.size ∧ Hid (Own wr w'.heap.size 5 1 o (34 :: escs ((bs s).take k)).length (u8s (34 :: escs ((bs s).take k)))) ∧ Hid (Below w'.heap.size w' wr)) (fun _ _ i _ => s.size - (intOf i).toNat)
  case atStart => exact ⟨0, rfl, by omega, hn0, (Below.refl _ _).alloc (Nat.le_refl _) _⟩
  case round =>
    obtain ⟨k, rfl, hk, ho, hB⟩ := hrel
    have hlen := escs_length ((bs s).take k)
    rw [List.length_take, bs_length] at hlen
    by_cases hlt : k < s.size
    · have hstep := escs_snoc s k hlt
      obtain ⟨l, hl⟩ : ∃ l, l = 34 :: escs ((bs s).take k) := ⟨_, rfl⟩
      have hl1 : l.length ≤ 2000000001 := by rw [hl, List.length_cons]; omega
      rw [← hl] at ho
      have hl2 : Hid (34 :: escs ((bs s).take (k + 1)) = l ++ esc s[k]) := Lib.hid (by rw [hstep, hl]; rfl)
      clear hl hstep hlen
      have hBw := hB.out.size
      by_cases h34 : s[k].toNat = 34
      · have hb : ((s[k].toNat : Int) == 34) = true := u8_beq_true h34
        have he : Hid (esc s[k] = [92, s[k]]) := Lib.hid (by unfold esc; rw [if_pos (.inl (u8_iff.2 h34))])
        go_wp2_with (at_builtin; first
          | (refine push_u8 _ _ rfl rfl rfl ho.out rfl rfl (by omega) hBw ?_; intro v1 w1 ho1 hb1; replace ho1 := Lib.hid ho1; have hB1 := Lib.hid (hB.out.trans hb1); clear hb1; have hBw1 := hB1.out.size)
          | (refine push_u8 _ _ rfl rfl rfl ho1.out rfl rfl (by omega) hBw1 ?_; intro v2 w2 ho2 hb2; replace ho2 := Lib.hid ho2; replace hb2 := Lib.hid hb2))
        go_roundw
        case rel =>
          refine ⟨k + 1, by go_num, by omega, Lib.hid ?_, Lib.hid (hB1.out.trans hb2.out)⟩
          rw [hl2.out, he.out]
          have : u8s (l ++ [92, s[k]]) = u8s l ++ [.int .u8 92] ++ [.int .u8 (s[k].toNat : Int)] := by simp [u8s]
          rw [this]
          have h34' : (s[k].toNat : Int) = 34 := by omega
          rw [h34']; simpa [Nat.add_assoc] using ho2.out
        case measure => simp [intOf]; omega
      · have hb : ((s[k].toNat : Int) == 34) = false := beq_cast_false h34
        by_cases h92 : s[k].toNat = 92
        · have hb2 : ((s[k].toNat : Int) == 92) = true := u8_beq_true h92
          have he : Hid (esc s[k] = [92, s[k]]) := Lib.hid (by unfold esc; rw [if_pos (.inr (u8_iff.2 h92))])
          go_wp2_with (at_builtin; first
            | (refine push_u8 _ _ rfl rfl rfl ho.out rfl rfl (by omega) hBw ?_; intro v1 w1 ho1 hb1; replace ho1 := Lib.hid ho1; have hB1 := Lib.hid (hB.out.trans hb1); clear hb1; have hBw1 := hB1.out.size)
            | (refine push_u8 _ _ rfl rfl rfl ho1.out rfl rfl (by omega) hBw1 ?_; intro v2 w2 ho2 hb2; replace ho2 := Lib.hid ho2; replace hb2 := Lib.hid hb2))
          go_roundw
          case rel =>
            refine ⟨k + 1, by go_num, by omega, Lib.hid ?_, Lib.hid (hB1.out.trans hb2.out)⟩
            rw [hl2.out, he.out]
            have : u8s (l ++ [92, s[k]]) = u8s l ++ [.int .u8 92] ++ [.int .u8 (s[k].toNat : Int)] := by simp [u8s]
            rw [this]
            have h92' : (s[k].toNat : Int) = 92 := by omega
            rw [h92']; simpa [Nat.add_assoc] using ho2.out
          case measure => simp [intOf]; omega
        · have hb2 : ((s[k].toNat : Int) == 92) = false := beq_cast_false h92
          have he : Hid (esc s[k] = [s[k]]) := Lib.hid (by unfold esc; rw [if_neg]; rintro (h | h); exact h34 (u8_iff.1 h); exact h92 (u8_iff.1 h))
          have h34h := Lib.hid h34
          have h92h := Lib.hid h92
          clear h34 h92
          go_wp2_with (at_builtin; refine push_u8 _ _ rfl rfl rfl ho.out rfl rfl (by omega) hBw ?_; intro v1 w1 ho1 hb1; replace ho1 := Lib.hid ho1; have hB1 := Lib.hid (hB.out.trans hb1); clear hb1)
          go_roundw
          case rel =>
            refine ⟨k + 1, by go_num, by omega, Lib.hid ?_, hB1⟩
            rw [hl2.out, he.out, u8s_snoc]
            simpa using ho1.out
          case measure => simp [intOf]; omega
    · obtain rfl : k = s.size := by omega
      rw [take_all] at ho hlen
      obtain ⟨l, hl⟩ : ∃ l, l = 34 :: escs (bs s) := ⟨_, rfl⟩
      have hl1 : l.length ≤ 2000000001 := by rw [hl, List.length_cons]; omega
      rw [← hl] at ho
      have hq : Hid (str (quote (bs s)) = str (l ++ [34])) := Lib.hid (by rw [hl]; rfl)
      clear hl
      have hBw := hB.out.size
      go_wp2_with (at_builtin; refine push_u8 _ _ rfl rfl rfl ho.out rfl rfl (by omega) hBw ?_; intro v1 w1 ho1 hb1; have hB1 := Lib.hid (hB.out.trans hb1); clear hb1; have hcv := run_own_str (l := l ++ [34]) (by simpa [u8s_snoc] using ho1); replace ho1 := Lib.hid ho1)
      go_ret2
      exact ⟨by rw [hq.out]; rfl, hB1.out⟩
end Go.Proofs.YtjcgognngeagiaaDoor
