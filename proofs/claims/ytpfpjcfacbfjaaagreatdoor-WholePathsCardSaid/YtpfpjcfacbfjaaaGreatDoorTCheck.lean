/-
  Layer 33: Check, the code's and the document's.
-/
import Derived.Test.YtpfpjcfacbfjaaaGreatDoorTHas
import Derived.Deep.QuietTactic
import Derived.BigQuiet
namespace Go.Proofs.YtpfpjcfacbfjaaaGreatDoor
open Go.RowKit Ti

theorem take_len {α : Type} {l : List α} {k : Nat} (h : k < l.length) : (l.take k).length = k := by rw [List.length_take]; omega
/-- What the document's Check reads. -/
def TS (wr : World) (b o : Nat) (x : ByteArray) (w' : World) : Prop := Below wr.heap.size wr w' ∧ w'.cell? ⟨b, o, none⟩ = some (.string x)
theorem TS.below {wr w' w'' : World} {b o : Nat} {x : ByteArray} (h : TS wr b o x w') (hb : b < wr.heap.size) (hw : Below w'.heap.size w' w'') : TS wr b o x w'' := by
  have hs := h.1.size
  exact ⟨h.1.trans (hw.mono hs), (hw.cell (p := ⟨b, o, none⟩) (show b < _ by omega)).trans h.2⟩
theorem dup_step {l : List Bytes} {k : Nat} (hk : k < l.length) (h : ∀ i, (hi : i < l.length) → i < k → l[i] ∉ l.take i) (h2 : l[k] ∉ l.take k) : ∀ i, (hi : i < l.length) → i < k + 1 → l[i] ∉ l.take i := fun i hi hik => by
  rcases Nat.lt_or_ge i k with h1 | h1
  · exact h i hi h1
  · obtain rfl : i = k := by omega
    exact h2
set_option maxRecDepth 100000 in
set_option maxHeartbeats 8000000 in
theorem check_any (l : List Bytes) (A : Option Addr) (cap : Nat) (w : World) (hR : Rd w 1 (.slice A l.length cap) l.length (strs l)) (hm : l.length ≤ 9223372036854775807) :
    Calls Tryz.prog 18 #[.slice A l.length cap] w fun e w' => e = .returned (errV (chkN l)) ∧ w' = w := by
  obtain ⟨A', c', e', hcap, -, hr⟩ := id hR
  cases e'
  replace hr := Lib.hid hr
  by_cases h4 : 4 < l.length
  · have hres := Lib.hid (chkN_long h4)
    replace hR := Lib.hid hR
    go_enter Tryz.func18, Tryz.ntmps18
    go_wp2
    go_ret
    exact ⟨by rw [hres.out]; rfl, rfl⟩
  · have hC : ∀ k, (hk : k < l.length) → Calls Tryz.prog 28 #[.slice A k cap, .string (str l[k])] w fun e w' => e = .returned (.bool (decide (l[k] ∈ l.take k))) ∧ w' = w := fun k hk => by
      have := contains_any (l.take k) l[k] A cap w (rd_take hR (by omega)) (by rw [List.length_take]; omega)
      rw [take_len hk] at this
      exact this
    replace hC := Lib.hid hC
    replace hR := Lib.hid hR
    go_enter Tryz.func18, Tryz.ntmps18
    go_wp2
    go_loop [13] (fun i => ∃ k : Nat, i = .int .i64 (k : Int) ∧ k ≤ l.length ∧ Hid (∀ i, (hi : i < l.length) → i < k → l[i] ∉ l.take i)) (fun i => l.length - (intOf i).toNat)
    case atStart => exact ⟨0, rfl, by omega, Lib.hid fun i _ h => absurd h (by omega)⟩
    case round =>
      obtain ⟨k, rfl, hk, hno⟩ := hrel
      by_cases hlt : k < l.length
      · obtain ⟨b1, o1, rfl, _, x1⟩ := hr.out (by omega)
        have d1 : w.cell? ⟨b1, o1 + k, none⟩ = some (.string (str l[k])) := x1 k _ (strs_at hlt)
        have hCk := Lib.hid (hC.out k hlt)
        have hck : (k : Int) ≤ (cap : Int) := by omega
        clear x1
        by_cases hin : l[k] ∈ l.take k
        · have hres := Lib.hid (chkN_dup ⟨k, hlt, hin⟩)
          rw [decide_eq_true hin] at hCk
          clear hin hno
          generalize l[k] = x at *
          go_wp2_with fail
          refine hCk.out.mono ?_
          rintro e w1 ⟨rfl, rfl⟩
          go_wp2
          go_ret
          exact ⟨by rw [hres.out]; rfl, rfl⟩
        · have hn := Lib.hid (dup_step hlt hno.out hin)
          rw [decide_eq_false hin] at hCk
          clear hin hno
          generalize l[k] = x at *
          go_wp2_with fail
          refine hCk.out.mono ?_
          rintro e w1 ⟨rfl, rfl⟩
          go_wp2
          go_round
          case rel => exact ⟨k + 1, by go_num, by omega, hn⟩
          case measure => simp [intOf]; omega
      · obtain rfl : k = l.length := by omega
        have hnd := Lib.hid (not_dup fun i hi => hno.out i hi hi)
        clear hno hC
        go_wp2
        go_loop [27] (fun i => ∃ k : Nat, i = .int .i64 (k : Int) ∧ k ≤ l.length ∧ Hid (∀ i, (hi : i < l.length) → i < k → l[i] ≠ [] ∧ ¬(l[i] = org ∧ i + 1 < l.length))) (fun i => l.length - (intOf i).toNat)
        case atStart => exact ⟨0, rfl, by omega, Lib.hid fun i _ h => absurd h (by omega)⟩
        case round =>
          obtain ⟨k, rfl, hk, hno⟩ := hrel
          by_cases hlt : k < l.length
          · obtain ⟨b1, o1, rfl, _, x1⟩ := hr.out (by omega)
            have d1 : w.cell? ⟨b1, o1 + k, none⟩ = some (.string (str l[k])) := x1 k _ (strs_at hlt)
            clear x1
            have hbad : (l[k] = [] ∨ (l[k] = org ∧ k + 1 < l.length)) → Hid (chkN l = 8) := fun h => Lib.hid (chkN_bad h4 hnd.out ⟨k, hlt, h⟩)
            have hgo : ¬(l[k] = [] ∨ (l[k] = org ∧ k + 1 < l.length)) → Hid (∀ i, (hi : i < l.length) → i < k + 1 → l[i] ≠ [] ∧ ¬(l[i] = org ∧ i + 1 < l.length)) := fun h => Lib.hid fun i hi hik => by
              rcases Nat.lt_or_ge i k with h1 | h1
              · exact hno.out i hi h1
              · obtain rfl : i = k := by omega
                exact ⟨fun e => h (.inl e), fun e => h (.inr e)⟩
            clear hno
            generalize l[k] = x at *
            by_cases he : x = []
            · have hb := hbad (.inl he)
              have q1 : (str x).toList.isEmpty = true := by rw [str_toList, he]; rfl
              clear hbad hgo
              replace he := Lib.hid he
              go_wp2
              go_ret
              exact ⟨by rw [hb.out]; rfl, rfl⟩
            · have q1 : (str x).toList.isEmpty = false := by rw [str_toList]; cases x with | nil => exact absurd rfl he | cons a r => rfl
              by_cases ho : x = org
              · have q2 : ((str x).toList == [111, 114, 105, 103, 105, 110]) = true := by rw [str_toList, ho]; rfl
                by_cases hk1 : k + 1 < l.length
                · have hb := hbad (.inr ⟨ho, hk1⟩)
                  clear hbad hgo
                  replace he := Lib.hid he
                  replace ho := Lib.hid ho
                  go_wp2
                  go_ret
                  exact ⟨by rw [hb.out]; rfl, rfl⟩
                · have hn := hgo (by rintro (h | h); exact he h; exact hk1 h.2)
                  clear hbad hgo
                  replace he := Lib.hid he
                  replace ho := Lib.hid ho
                  go_wp2
                  go_round
                  case rel => exact ⟨k + 1, by go_num, by omega, hn⟩
                  case measure => simp [intOf]; omega
              · have q2 : ((str x).toList == [111, 114, 105, 103, 105, 110]) = false := by rw [str_toList, beq_eq_false_iff_ne]; exact ho
                have hn := hgo (by rintro (h | h); exact he h; exact ho h.1)
                clear hbad hgo
                replace he := Lib.hid he
                replace ho := Lib.hid ho
                go_wp2
                go_round
                case rel => exact ⟨k + 1, by go_num, by omega, hn⟩
                case measure => simp [intOf]; omega
          · obtain rfl : k = l.length := by omega
            have h0 := Lib.hid (chkN_ok h4 hnd.out (not_bad fun i hi => hno.out i hi hi))
            clear hno
            go_wp2
            go_ret
            exact ⟨by rw [h0.out]; rfl, rfl⟩
end Go.Proofs.YtpfpjcfacbfjaaaGreatDoor
