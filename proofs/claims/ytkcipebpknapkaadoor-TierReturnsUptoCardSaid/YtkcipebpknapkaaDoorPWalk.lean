/-
  Layer 1: the walk of parts.
-/
import Derived.Test.YtkcipebpknapkaaDoorParts
namespace Go.Proofs.YtkcipebpknapkaaDoor
open Go.RowKit Syn

/-- The number of the error: ErrForm for none. -/
def errO {α : Type} (o : Option α) : Int := if o.isSome then 0 else 2
set_option maxRecDepth 100000 in
set_option maxHeartbeats 4000000 in
theorem parts_any (s : ByteArray) (b : UInt8) (w : World) (hs : s.size ≤ 1000000000) :
    Calls Tryd.prog 29 #[.string s, .int .u8 (b.toNat : Int)] w fun e w' => ∃ v, e = .returned (.tuple #[v, errV (errO (parts b (bs s)))]) ∧ PartsOut w' w.heap.size v (parts b (bs s)) ∧ Below w.heap.size w w' := by
  cases hc : cln (bs s)
  · have hp : parts b (bs s) = none := by unfold parts; rw [hc]; rfl
    rw [hp]
    go_enter Tryd.func29, Tryd.ntmps29
    go_wp2_with (go_at_call 37; refine (clean_any s _ (by unfold maxLen; omega)).mono ?_; rintro e w' ⟨rfl, rfl⟩; rw [hc])
    go_ret2
    exact ⟨_, rfl, rfl, Below.refl _ _⟩
  · have hp : Hid (parts b (bs s) = partsGo b false [] [] (bs s)) := Lib.hid (by unfold parts; rw [hc]; rfl)
    go_enter Tryd.func29, Tryd.ntmps29
    go_wp2_with (go_at_call 37; refine (clean_any s _ (by unfold maxLen; omega)).mono ?_; rintro e w' ⟨rfl, rfl⟩; rw [hc])
    go_loopw [6, 7, 8, 9] (fun o fr qu i wr => ∃ (k f : Nat) (q : Bool) (out : List (List UInt8)), i = .int .i64 k ∧ fr = .int .i64 f ∧ qu = .bool q ∧ k ≤ s.size + 1 ∧ f ≤ s.size ∧ f ≤ k ∧ Hid (out.length ≤ k) ∧ Hid (Own wr w'.heap.size 9 1 o out.length (strs out)) ∧ Hid (parts b (bs s) = partsGo b q (cur s f k) out ((bs s).drop k)) ∧ Hid (Below w'.heap.size w' wr)) (fun _ _ _ i _ => s.size + 1 - (intOf i).toNat)
    case atStart => exact ⟨0, 0, false, [], rfl, rfl, rfl, by omega, by omega, by omega, Nat.le_refl _, own_nil _ _ _ _, hp, Below.refl _ _⟩
    case round =>
      obtain ⟨k, f, q, out, rfl, rfl, rfl, hk, hf, hfk, hlen, ho, hP, hB⟩ := hrel
      have hBw := hB.out.size
      have hlen' : out.length ≤ 1000000001 := by have := hlen.out; omega
      by_cases hlt : k < s.size
      · by_cases hA : q = true ∧ s[k].toNat = 92
        · obtain ⟨rfl, h92⟩ := hA
          have hb2 : ((s[k].toNat : Int) == 92) = true := u8_beq_true h92
          have hr := Lib.hid (hP.out.trans (pt_esc hlt hfk h92))
          clear h92
          go_wp2
          go_roundw
          case rel => exact ⟨k + 1 + 1, f, true, out, by go_num, rfl, rfl, by omega, hf, by omega, Lib.hid (by have := hlen.out; omega), ho, hr, hB⟩
          case measure => simp [intOf]; omega
        · by_cases h34 : s[k].toNat = 34
          · have hb1 : ((s[k].toNat : Int) == 34) = true := u8_beq_true h34
            have hb2 : ((s[k].toNat : Int) == 92) = false := beq_cast_false (show s[k].toNat ≠ 92 by omega)
            have hr := Lib.hid (hP.out.trans (pt_quote hlt hfk h34))
            clear h34 hA
            cases q
            · go_wp2
              go_roundw
              case rel => exact ⟨k + 1, f, true, out, by go_num, rfl, rfl, by omega, hf, by omega, Lib.hid (by have := hlen.out; omega), ho, hr, hB⟩
              case measure => simp [intOf]; omega
            · go_wp2
              go_roundw
              case rel => exact ⟨k + 1, f, false, out, by go_num, rfl, rfl, by omega, hf, by omega, Lib.hid (by have := hlen.out; omega), ho, hr, hB⟩
              case measure => simp [intOf]; omega
          · have hb1 : ((s[k].toNat : Int) == 34) = false := beq_cast_false h34
            cases q
            · by_cases hsep : s[k].toNat = b.toNat
              · have hb3 : ((s[k].toNat : Int) == (b.toNat : Int)) = true := beq_cast_true hsep
                have hr := Lib.hid (hP.out.trans (pt_sep hlt h34 hsep))
                have hx := Lib.hid (extract_cur (s := s) (f := f) (k := k))
                have hxs := extract_le s f k
                clear h34 hA hsep
                go_wp2_with fail
                refine (trim_any (s.extract f k) _ (by omega)).mono ?_
                rintro e w1 ⟨rfl, hb1⟩
                have ho1 := Lib.hid (own_below ho.out hb1)
                have hB1 := Lib.hid (Below.next hB.out hBw hb1)
                clear hb1
                have hBw1 := hB1.out.size
                go_wp2_with (at_builtin; refine push_str _ _ rfl rfl rfl ho1.out rfl rfl (by omega) hBw1 ?_; intro v2 w2 ho2 hb2; replace ho2 := Lib.hid ho2; have hB2 := Lib.hid (hB1.out.trans hb2); clear hb2)
                go_roundw
                case rel =>
                  refine ⟨k + 1, k + 1, false, out ++ [trim (cur s f k)], by go_num, by go_num, rfl, by omega, by omega, by omega, Lib.hid ?_, Lib.hid ?_, hr, hB2⟩
                  · have := hlen.out; simp; omega
                  · rw [strs_snoc]; have h := ho2.out; rw [hx.out] at h; simpa using h
                case measure => simp [intOf]; omega
              · have hb3 : ((s[k].toNat : Int) == (b.toNat : Int)) = false := beq_cast_false hsep
                have hr := Lib.hid (hP.out.trans (pt_other hlt hfk h34 (fun h => by cases h) (fun _ => hsep)))
                clear h34 hA hsep
                go_wp2
                go_roundw
                case rel => exact ⟨k + 1, f, false, out, by go_num, rfl, rfl, by omega, hf, by omega, Lib.hid (by have := hlen.out; omega), ho, hr, hB⟩
                case measure => simp [intOf]; omega
            · have h92 : s[k].toNat ≠ 92 := fun h => hA ⟨rfl, h⟩
              have hb2 : ((s[k].toNat : Int) == 92) = false := beq_cast_false h92
              have hr := Lib.hid (hP.out.trans (pt_other hlt hfk h34 (fun _ => h92) (fun h => by cases h)))
              clear h34 hA h92
              go_wp2
              go_roundw
              case rel => exact ⟨k + 1, f, true, out, by go_num, rfl, rfl, by omega, hf, by omega, Lib.hid (by have := hlen.out; omega), ho, hr, hB⟩
              case measure => simp [intOf]; omega
      · have hr := hP.out.trans (pt_end (by omega))
        have hge : s.size ≤ k := by omega
        have hdl : decide ((k : Int) < (s.size : Int)) = false := by rw [decide_eq_false_iff_not]; omega
        cases q
        · rw [if_neg (by decide)] at hr
          replace hr := Lib.hid hr
          have hx := Lib.hid (extract_rest (s := s) (f := f))
          have hxs := extract_le s f s.size
          go_wp2_with fail
          refine (trim_any (s.extract f s.size) _ (by omega)).mono ?_
          rintro e w1 ⟨rfl, hb1⟩
          have ho1 := Lib.hid (own_below ho.out hb1)
          have hB1 := Lib.hid (Below.next hB.out hBw hb1)
          clear hb1
          have hBw1 := hB1.out.size
          go_wp2_with (at_builtin; refine push_str _ _ rfl rfl rfl ho1.out rfl rfl (by omega) hBw1 ?_; intro v2 w2 ho2 hb2; replace ho2 := Lib.hid ho2; have hB2 := Lib.hid (hB1.out.trans hb2); clear hb2)
          go_ret2
          refine ⟨v2, by rw [hr.out]; rfl, ?_, hB2.out⟩
          rw [hr.out]
          show Own _ _ _ 1 v2 (out ++ [_]).length (strs (out ++ [_]))
          rw [strs_snoc]; have h := ho2.out; rw [hx.out] at h; simpa using h
        · rw [if_pos rfl] at hr
          replace hr := Lib.hid hr
          go_wp2
          go_ret2
          exact ⟨_, by rw [hr.out]; rfl, by rw [hr.out]; rfl, hB.out⟩
end Go.Proofs.YtkcipebpknapkaaDoor
