/-
  Layer 5: the document's WriteResponse.
-/
import Derived.Test.YtemlnmelicnneaaDoorHRIn
namespace Go.Proofs.YtemlnmelicnneaaDoor
open Go.RowKit Syn Hd Ck

set_option maxRecDepth 100000 in
set_option maxHeartbeats 16000000 in
theorem rwresp_any (s : Int) (hs1 : -9223372036854775808 ≤ s) (hs2 : s ≤ 9223372036854775807) (l : List (List UInt8 × List UInt8)) (v : Value) (w : World) (hR : Rd w 2 v l.length (prs l)) (hs : ∀ p ∈ l, p.1.length ≤ 1000000 ∧ p.2.length ≤ 1000000) (hm : l.length ≤ 1000) :
    Calls Tryd.prog 13 #[.agg #[.int .i64 s, v]] w fun e w' => e = .returned (.tuple #[.string (str (wrB s l)), .int .i64 (wrE s l)]) ∧ Below w.heap.size w w' := by
  obtain ⟨A, cap, rfl, hcap, -, -⟩ := id hR
  have hK : RAt w s (.slice A l.length cap) (w.alloc (.cells #[.int .i64 s, .slice A l.length cap] 24)) := ⟨(Below.refl w.heap.size w).alloc (Nat.le_refl _) _, Blk.new w _ _⟩
  have hRe := Lib.hid (fun w' => rreason_any s hs1 hs2 w')
  have hRb := Lib.hid (fun w' (hb : Below w.heap.size w w') => rbody_any l (.slice A l.length cap) w' (hR.below hb) hs hm)
  replace hR := Lib.hid hR
  by_cases c1 : s < 100
  · have hD := Lib.hid (fun w' => digits_any 0 (by omega) w')
    have a0 := hK.at0
    have q1 : ((⟨#[72, 84, 84, 80, 47, 49, 46, 49, 32]⟩ : ByteArray) ++ str (dg3 0)).size = 12 := by rw [ByteArray.size_append]; rfl
    have q2 : (((⟨#[72, 84, 84, 80, 47, 49, 46, 49, 32]⟩ : ByteArray) ++ str (dg3 0)) ++ ⟨#[32]⟩).size = 13 := by rw [ByteArray.size_append, q1]; rfl
    have q3 : (str (dg3 0)).size = 3 := rfl
    have hrs : rsn s = [] := rsn_none (.inl c1)
    rw [hrs] at hRe
    have q4 : (((⟨#[72, 84, 84, 80, 47, 49, 46, 49, 32]⟩ : ByteArray) ++ str (dg3 0)) ++ ⟨#[32]⟩ ++ str []).size = 13 := by rw [ByteArray.size_append, q2]; rfl
    have q5 : (((⟨#[72, 84, 84, 80, 47, 49, 46, 49, 32]⟩ : ByteArray) ++ str (dg3 0)) ++ ⟨#[32]⟩ ++ str [] ++ ⟨#[13, 10]⟩).size = 15 := by rw [ByteArray.size_append, q4]; rfl
    have zr : (str []).size = 0 := rfl
    have zb : (str (lnsR l ++ [13, 10])).size = (lns l).length + 2 := by rw [str_size, List.length_append, lnsR_len]; rfl
    have q6 : (((⟨#[72, 84, 84, 80, 47, 49, 46, 49, 32]⟩ : ByteArray) ++ str (dg3 0)) ++ ⟨#[32]⟩ ++ str [] ++ ⟨#[13, 10]⟩ ++ str (lnsR l ++ [13, 10])).size = 15 + ((lns l).length + 2) := by rw [ByteArray.size_append, q5, zb]
    have hlen := lns_len l 1000000 hs
    have hE : wrE s l = if 64 < l.length ∨ 8192 < 15 + ((lns l).length + 2) then 5 else 2 := by
      unfold wrE largeB
      rw [hrs]
      by_cases h : 64 < l.length ∨ 8192 < 15 + ((lns l).length + 2)
      · rw [if_pos h, if_pos (by simpa using h)]
      · rw [if_neg h, if_neg (by simpa using h), if_pos (.inl c1)]
    have hW : wrE s l ≠ 0 → wrB s l = [] := fun h => by unfold wrB; rw [if_neg h]
    generalize str (lnsR l ++ [13, 10]) = sb at *
    generalize str (dg3 0) = sd at *
    generalize str [] = sr at *
    go_enter Tryd.func13, Tryd.ntmps13
    go_wp2_with fail
    go_region_held3 (fun w' => RAt w s (.slice A l.length cap) w' ∧ w'.cell? ⟨w.heap.size, 0, none⟩ = some (.int .i64 s)) (first | exact ⟨hK, hK.at0⟩ | exact RAt.more ⟨hK, hK.at0⟩ (Below.refl _ _).drew | exact RAt.more ⟨hK, hK.at0⟩ hb7 | exact RAt.more (by assumption) hb7 | exact RAt.more (by assumption) (by assumption) | exact RAt.more (by assumption) (Below.refl _ _).drew)
      (first | (go_at_call 32; refine (hD.out _).mono ?_; rintro e w6 ⟨rfl, hb6⟩; first | have hb7 := below_of_drew hb6 | have hb7 := hb6) | (go_at_call 16; refine (hRe.out _).mono ?_; rintro e w6 ⟨rfl, hb6⟩; first | have hb7 := below_of_drew hb6 | have hb7 := hb6))
    all_goals
      have hH : RAt w s (.slice A l.length cap) w6 ∧ w6.cell? ⟨w.heap.size, 0, none⟩ = some (.int .i64 s) := by assumption
      have a1 := hH.1.at1
      have hB6 := Lib.hid hH.1.1
      have hH6 := Lib.hid hH.1
      clear hH
      go_wp2_with fail
      refine (hRb.out _ hB6.out).mono ?_
      rintro e w7 ⟨rfl, hb7⟩
      have h7 := hH6.out.below hb7
      have b1 := h7.at1
      have hB7 := Lib.hid h7.1
      clear hb7 h7
      replace a1 := Lib.hid a1
      by_cases k1 : 64 < l.length
      · rw [if_pos (.inl k1)] at hE
        have hF := hW (by rw [hE]; decide)
        replace hE := Lib.hid hE
        replace hF := Lib.hid hF
        clear hW
        go_wp2
        go_ret2
        exact ⟨by rw [hE.out, hF.out]; rfl, hB7.out⟩
      · by_cases k2 : 8192 < 15 + ((lns l).length + 2)
        · rw [if_pos (.inr k2)] at hE
          have hF := hW (by rw [hE]; decide)
          replace hE := Lib.hid hE
          replace hF := Lib.hid hF
          clear hW
          go_wp2
          go_ret2
          exact ⟨by rw [hE.out, hF.out]; rfl, hB7.out⟩
        · rw [if_neg (by omega)] at hE
          have hF := hW (by rw [hE]; decide)
          replace hE := Lib.hid hE
          replace hF := Lib.hid hF
          clear hW
          go_wp2
          go_ret2
          exact ⟨by rw [hE.out, hF.out]; rfl, hB7.out⟩
  · by_cases c2 : 599 < s
    · have hD := Lib.hid (fun w' => digits_any 0 (by omega) w')
      have a0 := hK.at0
      have q1 : ((⟨#[72, 84, 84, 80, 47, 49, 46, 49, 32]⟩ : ByteArray) ++ str (dg3 0)).size = 12 := by rw [ByteArray.size_append]; rfl
      have q2 : (((⟨#[72, 84, 84, 80, 47, 49, 46, 49, 32]⟩ : ByteArray) ++ str (dg3 0)) ++ ⟨#[32]⟩).size = 13 := by rw [ByteArray.size_append, q1]; rfl
      have q3 : (str (dg3 0)).size = 3 := rfl
      have hrs : rsn s = [] := rsn_none (.inr (by omega))
      rw [hrs] at hRe
      have q4 : (((⟨#[72, 84, 84, 80, 47, 49, 46, 49, 32]⟩ : ByteArray) ++ str (dg3 0)) ++ ⟨#[32]⟩ ++ str []).size = 13 := by rw [ByteArray.size_append, q2]; rfl
      have q5 : (((⟨#[72, 84, 84, 80, 47, 49, 46, 49, 32]⟩ : ByteArray) ++ str (dg3 0)) ++ ⟨#[32]⟩ ++ str [] ++ ⟨#[13, 10]⟩).size = 15 := by rw [ByteArray.size_append, q4]; rfl
      have zr : (str []).size = 0 := rfl
      have zb : (str (lnsR l ++ [13, 10])).size = (lns l).length + 2 := by rw [str_size, List.length_append, lnsR_len]; rfl
      have q6 : (((⟨#[72, 84, 84, 80, 47, 49, 46, 49, 32]⟩ : ByteArray) ++ str (dg3 0)) ++ ⟨#[32]⟩ ++ str [] ++ ⟨#[13, 10]⟩ ++ str (lnsR l ++ [13, 10])).size = 15 + ((lns l).length + 2) := by rw [ByteArray.size_append, q5, zb]
      have hlen := lns_len l 1000000 hs
      have hE : wrE s l = if 64 < l.length ∨ 8192 < 15 + ((lns l).length + 2) then 5 else 2 := by
        unfold wrE largeB
        rw [hrs]
        by_cases h : 64 < l.length ∨ 8192 < 15 + ((lns l).length + 2)
        · rw [if_pos h, if_pos (by simpa using h)]
        · rw [if_neg h, if_neg (by simpa using h), if_pos (.inr c2)]
      have hW : wrE s l ≠ 0 → wrB s l = [] := fun h => by unfold wrB; rw [if_neg h]
      generalize str (lnsR l ++ [13, 10]) = sb at *
      generalize str (dg3 0) = sd at *
      generalize str [] = sr at *
      go_enter Tryd.func13, Tryd.ntmps13
      go_wp2_with fail
      go_region_held3 (fun w' => RAt w s (.slice A l.length cap) w' ∧ w'.cell? ⟨w.heap.size, 0, none⟩ = some (.int .i64 s)) (first | exact ⟨hK, hK.at0⟩ | exact RAt.more ⟨hK, hK.at0⟩ (Below.refl _ _).drew | exact RAt.more ⟨hK, hK.at0⟩ hb7 | exact RAt.more (by assumption) hb7 | exact RAt.more (by assumption) (by assumption) | exact RAt.more (by assumption) (Below.refl _ _).drew)
        (first | (go_at_call 32; refine (hD.out _).mono ?_; rintro e w6 ⟨rfl, hb6⟩; first | have hb7 := below_of_drew hb6 | have hb7 := hb6) | (go_at_call 16; refine (hRe.out _).mono ?_; rintro e w6 ⟨rfl, hb6⟩; first | have hb7 := below_of_drew hb6 | have hb7 := hb6))
      all_goals
        have hH : RAt w s (.slice A l.length cap) w6 ∧ w6.cell? ⟨w.heap.size, 0, none⟩ = some (.int .i64 s) := by assumption
        have a1 := hH.1.at1
        have hB6 := Lib.hid hH.1.1
        have hH6 := Lib.hid hH.1
        clear hH
        go_wp2_with fail
        refine (hRb.out _ hB6.out).mono ?_
        rintro e w7 ⟨rfl, hb7⟩
        have h7 := hH6.out.below hb7
        have b1 := h7.at1
        have hB7 := Lib.hid h7.1
        clear hb7 h7
        replace a1 := Lib.hid a1
        by_cases k1 : 64 < l.length
        · rw [if_pos (.inl k1)] at hE
          have hF := hW (by rw [hE]; decide)
          replace hE := Lib.hid hE
          replace hF := Lib.hid hF
          clear hW
          go_wp2
          go_ret2
          exact ⟨by rw [hE.out, hF.out]; rfl, hB7.out⟩
        · by_cases k2 : 8192 < 15 + ((lns l).length + 2)
          · rw [if_pos (.inr k2)] at hE
            have hF := hW (by rw [hE]; decide)
            replace hE := Lib.hid hE
            replace hF := Lib.hid hF
            clear hW
            go_wp2
            go_ret2
            exact ⟨by rw [hE.out, hF.out]; rfl, hB7.out⟩
          · rw [if_neg (by omega)] at hE
            have hF := hW (by rw [hE]; decide)
            replace hE := Lib.hid hE
            replace hF := Lib.hid hF
            clear hW
            go_wp2
            go_ret2
            exact ⟨by rw [hE.out, hF.out]; rfl, hB7.out⟩
    · obtain ⟨n, rfl, n1, n2⟩ : ∃ n : Nat, s = (n : Int) ∧ 100 ≤ n ∧ n ≤ 599 := ⟨s.toNat, by omega, by omega, by omega⟩
      exact rwresp_in n n1 n2 l _ w hR.out hs hm
end Go.Proofs.YtemlnmelicnneaaDoor
