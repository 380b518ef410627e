/-
  Layer 5: a header line.
-/
import Derived.Test.YtemlnmelicnneaaDoorHAny
import Derived.Test.YtemlnmelicnneaaDoorGWr
import Derived.Test.YtemlnmelicnneaaDoorHConv
import Derived.Test.YtemlnmelicnneaaDoorHHost
namespace Go.Proofs.YtemlnmelicnneaaDoor
open Go.RowKit Syn Fr Hd Ck

namespace Hd
def hdN (l : List UInt8) : List UInt8 := l.takeWhile (· != 58)
def hdR (l : List UInt8) : List UInt8 := (l.dropWhile (· != 58)).drop 1
def fst (c : UInt8) (l : List UInt8) : Bool := l.head?.any (fun x => decide (x = c))
/-- The error of a header line. -/
def hdE (l : List UInt8) : Int :=
  if fst 32 l = true ∨ fst 9 l = true then 23 else if (l.dropWhile (· != 58)).isEmpty = true ∨ hdN l = [] then 25 else if (hdN l).any Syn.blank = true then 24 else if nmE (hdN l) ≠ 0 then 25 else if vlE (hdR l) ≠ 0 then 25 else 0
/-- Its field. -/
def hdV (l : List UInt8) : List UInt8 × List UInt8 := if hdE l = 0 then (nmV (hdN l), vlV (hdR l)) else ([], [])
theorem hdV_bad {l : List UInt8} (h : hdE l ≠ 0) : hdV l = ([], []) := if_neg h
end Hd
set_option maxHeartbeats 1000000 in
theorem sprefix_any (s : ByteArray) (c : UInt8) (w : World) (hs : s.size ≤ 1000000) :
    Calls Tryd.prog 78 #[.string s, .string ⟨#[c]⟩] w fun e w' => e = .returned (.bool (fst c (bs s))) ∧ w' = w := by
  have hL : ∀ w, Calls Tryd.prog 104 #[.string s, .string ⟨#[c]⟩] w fun e w' => e = .returned (.bool (fst c (bs s))) ∧ w' = w := fun w => by
    by_cases h : 1 ≤ s.size
    · have hx : s.extract 0 1 = str [s[0]] := by
        rw [extract_str, List.drop_zero]
        congr 1
        have h1 := take_at s 0 h
        rw [Nat.zero_add] at h1
        rw [h1]; rfl
      have hr : fst c (bs s) = ((str [s[0]]).toList == [c]) := by
        unfold fst; rw [head_at s h, Option.any_some, str_toList]
        by_cases hc : s[0] = c
        · rw [hc, decide_eq_true rfl]; exact (beq_self_eq_true _).symm
        · rw [decide_eq_false hc]; symm; rw [beq_eq_false_iff_ne]; intro hh; exact hc (by simpa using hh)
      cases hq : ((str [s[0]]).toList == [c])
      · rw [hq] at hr
        generalize str [s[0]] = x at *
        replace hr := Lib.hid hr
        go_enter Tryd.func104, Tryd.ntmps104
        go_wp2
        go_ret
        exact ⟨congrArg (fun b => Ending.returned (.bool b)) (show _ = fst c (bs s) by first | (rw [hr.out]; done) | (rw [hr.out]; exact hq)), rfl⟩
      · rw [hq] at hr
        generalize str [s[0]] = x at *
        replace hr := Lib.hid hr
        go_enter Tryd.func104, Tryd.ntmps104
        go_wp2
        go_ret
        exact ⟨congrArg (fun b => Ending.returned (.bool b)) (show _ = fst c (bs s) by first | (rw [hr.out]; done) | (rw [hr.out]; exact hq)), rfl⟩
    · have hr := Lib.hid (show fst c (bs s) = false by
        have : bs s = [] := List.eq_nil_of_length_eq_zero (by rw [bs_length]; omega)
        rw [this]; rfl)
      go_enter Tryd.func104, Tryd.ntmps104
      go_wp2
      go_ret
      exact ⟨congrArg (fun b => Ending.returned (.bool b)) hr.out.symm, rfl⟩
  replace hL := Lib.hid hL
  go_enter Tryd.func78, Tryd.ntmps78
  go_wp2_with fail
  refine (hL.out _).mono ?_
  rintro e w1 ⟨rfl, rfl⟩
  go_wp2
  go_ret
  exact ⟨rfl, rfl⟩
set_option maxRecDepth 100000 in
set_option maxHeartbeats 16000000 in
theorem header_any (s : ByteArray) (w : World) (hs : s.size ≤ 1000000) :
    Calls Tryd.prog 62 #[.string s] w fun e w' => e = .returned (.tuple #[.agg #[.string (str (hdV (bs s)).1), .string (str (hdV (bs s)).2)], errV (hdE (bs s))]) ∧ Below w.heap.size w w' := by
  have hn := bs_length s
  have hE : hdE (bs s) = if fst 32 (bs s) = true ∨ fst 9 (bs s) = true then 23 else if ((bs s).dropWhile (· != 58)).isEmpty = true ∨ hdN (bs s) = [] then 25 else if (hdN (bs s)).any Syn.blank = true then 24 else if nmE (hdN (bs s)) ≠ 0 then 25 else if vlE (hdR (bs s)) ≠ 0 then 25 else 0 := rfl
  have hbad : ∀ n : Int, n ≠ 0 → hdE (bs s) = n → Ending.returned (.tuple #[.agg #[.string ByteArray.empty, .string ByteArray.empty], .iface 59 (.int .i64 n)]) = Ending.returned (.tuple #[.agg #[.string (str (hdV (bs s)).1), .string (str (hdV (bs s)).2)], errV (hdE (bs s))]) := fun n h0 h => by
    rw [hdV_bad (by rw [h]; exact h0), h, herr_ne h0]; rfl
  have hgood : hdE (bs s) = 0 → Ending.returned (.tuple #[.agg #[.string (str (nmV (hdN (bs s)))), .string (str (vlV (hdR (bs s))))], .nilIface]) = Ending.returned (.tuple #[.agg #[.string (str (hdV (bs s)).1), .string (str (hdV (bs s)).2)], errV (hdE (bs s))]) := fun h => by
    unfold hdV; rw [if_pos h, h]; rfl
  have hP1 := Lib.hid (fun w => sprefix_any s 32 w hs)
  have hP2 := Lib.hid (fun w => sprefix_any s 9 w hs)
  have hC := Lib.hid (fun w => cut_any s 58 w (by unfold maxLen; omega))
  unfold cutV at hC
  rw [show (bs s).takeWhile (· != 58) = hdN (bs s) from rfl, show ((bs s).dropWhile (· != 58)).drop 1 = hdR (bs s) from rfl] at hC
  have l1 : (hdN (bs s)).length ≤ 1000000 := by
    have := (List.takeWhile_prefix (p := (· != 58)) (l := bs s)).length_le
    unfold hdN; omega
  have l2 : (hdR (bs s)).length ≤ 1000000 := by
    have := (List.dropWhile_suffix (p := (· != 58)) (l := bs s)).length_le
    unfold hdR; rw [List.length_drop]; omega
  have hA := Lib.hid (fun w => containsany_any (hdN (bs s)) w (by omega))
  have hN := fun w => fname_any (str (hdN (bs s))) w (by rw [str_size]; omega)
  have hV := fun w => fvalue_any (str (hdR (bs s))) w (by rw [str_size]; omega)
  simp only [bs_str] at hN hV
  replace hN := Lib.hid hN
  replace hV := Lib.hid hV
  have hK0 := Lib.hid (Blk.new w 86 #[.string ByteArray.empty, .string ByteArray.empty])
  have hB0 := Lib.hid ((Below.refl w.heap.size w).alloc (Nat.le_refl _) (.cells #[.string ByteArray.empty, .string ByteArray.empty] 86))
  replace hbad := Lib.hid hbad
  replace hgood := Lib.hid hgood
  generalize hdN (bs s) = nm at *
  generalize hdR (bs s) = vl at *
  generalize (((bs s).dropWhile (· != 58)).isEmpty) = em at *
  have zn := str_size nm
  cases k1 : fst 32 (bs s) with
  | true =>
    rw [if_pos (.inl k1)] at hE
    rw [k1] at hP1
    replace k1 := Lib.hid k1
    have hR := Lib.hid (hbad.out _ (by decide) hE)
    replace hE := Lib.hid hE
    generalize str nm = sn at *
    generalize str vl = sv at *
    go_enter Tryd.func62, Tryd.ntmps62
    go_wp2_with fail
    refine (hP1.out _).mono ?_
    rintro e w1 ⟨rfl, rfl⟩
    go_wp2
    exact ret_blk rfl rfl rfl hK0.out Tryd.underlying86 rfl (by kernel_rfl) ⟨hR.out, hB0.out⟩

  | false =>
    rw [k1] at hP1
    cases k2 : fst 9 (bs s) with
    | true =>
      rw [if_pos (.inr k2)] at hE
      rw [k2] at hP2
      replace k1 := Lib.hid k1
      replace k2 := Lib.hid k2
      have hR := Lib.hid (hbad.out _ (by decide) hE)
      replace hE := Lib.hid hE
      generalize str nm = sn at *
      generalize str vl = sv at *
      go_enter Tryd.func62, Tryd.ntmps62
      go_wp2_with fail
      refine (hP1.out _).mono ?_
      rintro e w1 ⟨rfl, rfl⟩
      go_wp2_with fail
      refine (hP2.out _).mono ?_
      rintro e w1 ⟨rfl, rfl⟩
      go_wp2
      exact ret_blk rfl rfl rfl hK0.out Tryd.underlying86 rfl (by kernel_rfl) ⟨hR.out, hB0.out⟩

    | false =>
      rw [if_neg (by rw [k1, k2]; simp)] at hE
      rw [k2] at hP2
      replace k1 := Lib.hid k1
      replace k2 := Lib.hid k2
      cases em with
      | true =>
        rw [if_pos (.inl rfl)] at hE
        have hR := Lib.hid (hbad.out _ (by decide) hE)
        replace hE := Lib.hid hE
        generalize str nm = sn at *
        generalize str vl = sv at *
        go_enter Tryd.func62, Tryd.ntmps62
        go_wp2_with fail
        refine (hP1.out _).mono ?_
        rintro e w1 ⟨rfl, rfl⟩
        go_wp2_with fail
        refine (hP2.out _).mono ?_
        rintro e w1 ⟨rfl, rfl⟩
        go_wp2_with fail
        refine (hC.out _).mono ?_
        rintro e w1 ⟨rfl, n1, rfl⟩
        have hK1 := Lib.hid (hK0.out.drewN n1)
        have hB1 := Lib.hid (below_drewN hB0.out n1)
        have f0 := hK1.out.cell 0
        have f1 := hK1.out.cell 1
        have g0 := hK1.out.frozen 0
        have g1 := hK1.out.frozen 1
        go_wp2
        exact ret_blk rfl rfl rfl (hK1.out.two (.string ByteArray.empty) (.string ByteArray.empty)) Tryd.underlying86 rfl (by kernel_rfl) ⟨hR.out, (hB1.out.setCell (p := ⟨w.heap.size, 0, none⟩) (Nat.le_refl _) _).setCell (p := ⟨w.heap.size, 1, none⟩) (Nat.le_refl _) _⟩

      | false =>
        by_cases k3 : nm = []
        · rw [if_pos (.inr k3)] at hE
          have hR := Lib.hid (hbad.out _ (by decide) hE)
          have q1 : ((str nm).toList == []) = true := by rw [str_toList, k3]; rfl
          replace hE := Lib.hid hE
          replace k3 := Lib.hid k3
          have q2 : (str nm).toList.isEmpty = true := by rw [str_toList, k3.out]; rfl
          generalize str nm = sn at *
          generalize str vl = sv at *
          go_enter Tryd.func62, Tryd.ntmps62
          go_wp2_with fail
          refine (hP1.out _).mono ?_
          rintro e w1 ⟨rfl, rfl⟩
          go_wp2_with fail
          refine (hP2.out _).mono ?_
          rintro e w1 ⟨rfl, rfl⟩
          go_wp2_with fail
          refine (hC.out _).mono ?_
          rintro e w1 ⟨rfl, n1, rfl⟩
          have hK1 := Lib.hid (hK0.out.drewN n1)
          have hB1 := Lib.hid (below_drewN hB0.out n1)
          have f0 := hK1.out.cell 0
          have f1 := hK1.out.cell 1
          have g0 := hK1.out.frozen 0
          have g1 := hK1.out.frozen 1
          go_wp2
          exact ret_blk rfl rfl rfl (hK1.out.two (.string ByteArray.empty) (.string ByteArray.empty)) Tryd.underlying86 rfl (by kernel_rfl) ⟨hR.out, (hB1.out.setCell (p := ⟨w.heap.size, 0, none⟩) (Nat.le_refl _) _).setCell (p := ⟨w.heap.size, 1, none⟩) (Nat.le_refl _) _⟩

        · rw [if_neg (by rintro (h | h); cases h; exact k3 h)] at hE
          have q1 : ((str nm).toList == []) = false := by rw [str_toList, beq_eq_false_iff_ne]; exact k3
          have q2 : (str nm).toList.isEmpty = false := by rw [str_toList]; cases nm with | nil => exact absurd rfl k3 | cons a b => rfl
          replace k3 := Lib.hid k3
          cases k4 : nm.any Syn.blank with
          | true =>
            rw [if_pos k4] at hE
            rw [k4] at hA
            replace k4 := Lib.hid k4
            have hR := Lib.hid (hbad.out _ (by decide) hE)
            replace hE := Lib.hid hE
            generalize str nm = sn at *
            generalize str vl = sv at *
            go_enter Tryd.func62, Tryd.ntmps62
            go_wp2_with fail
            refine (hP1.out _).mono ?_
            rintro e w1 ⟨rfl, rfl⟩
            go_wp2_with fail
            refine (hP2.out _).mono ?_
            rintro e w1 ⟨rfl, rfl⟩
            go_wp2_with fail
            refine (hC.out _).mono ?_
            rintro e w1 ⟨rfl, n1, rfl⟩
            have hK1 := Lib.hid (hK0.out.drewN n1)
            have hB1 := Lib.hid (below_drewN hB0.out n1)
            go_wp2_with fail
            refine (hA.out _).mono ?_
            rintro e w2 ⟨rfl, hb2⟩
            have hb2' := Below.next hB1.out hB1.out.size hb2
            have hK2 := Lib.hid (hK1.out.below hb2)
            have hB2 := Lib.hid hb2'
            clear hb2 hb2'
            have f0 := hK2.out.cell 0
            have f1 := hK2.out.cell 1
            have g0 := hK2.out.frozen 0
            have g1 := hK2.out.frozen 1
            go_wp2
            exact ret_blk rfl rfl rfl (hK2.out.two (.string ByteArray.empty) (.string ByteArray.empty)) Tryd.underlying86 rfl (by kernel_rfl) ⟨hR.out, (hB2.out.setCell (p := ⟨w.heap.size, 0, none⟩) (Nat.le_refl _) _).setCell (p := ⟨w.heap.size, 1, none⟩) (Nat.le_refl _) _⟩

          | false =>
            rw [if_neg (by rw [k4]; decide)] at hE
            rw [k4] at hA
            replace k4 := Lib.hid k4
            by_cases k5 : nmE nm = 0
            · rw [if_neg (fun h => h k5)] at hE
              rw [k5, errV_zero] at hN
              replace k5 := Lib.hid k5
              by_cases k6 : vlE vl = 0
              · rw [if_neg (fun h => h k6)] at hE
                rw [k6, errV_zero] at hV
                replace k6 := Lib.hid k6
                have hR := Lib.hid (hgood.out hE)
                replace hE := Lib.hid hE
                generalize str (nmV nm) = snm at *
                generalize str (vlV vl) = svl at *
                generalize str nm = sn at *
                generalize str vl = sv at *
                go_enter Tryd.func62, Tryd.ntmps62
                go_wp2_with fail
                refine (hP1.out _).mono ?_
                rintro e w1 ⟨rfl, rfl⟩
                go_wp2_with fail
                refine (hP2.out _).mono ?_
                rintro e w1 ⟨rfl, rfl⟩
                go_wp2_with fail
                refine (hC.out _).mono ?_
                rintro e w1 ⟨rfl, n1, rfl⟩
                have hK1 := Lib.hid (hK0.out.drewN n1)
                have hB1 := Lib.hid (below_drewN hB0.out n1)
                go_wp2_with fail
                refine (hA.out _).mono ?_
                rintro e w2 ⟨rfl, hb2⟩
                have hb2' := Below.next hB1.out hB1.out.size hb2
                have hK2 := Lib.hid (hK1.out.below hb2)
                have hB2 := Lib.hid hb2'
                clear hb2 hb2'
                go_wp2_with fail
                refine (hN.out _).mono ?_
                rintro e w3 ⟨rfl, hb3⟩
                have hb3' := Below.next hB2.out hB2.out.size hb3
                have hK3 := Lib.hid (hK2.out.below hb3)
                have hB3 := Lib.hid hb3'
                clear hb3 hb3'
                go_wp2_with fail
                refine (hV.out _).mono ?_
                rintro e w4 ⟨rfl, hb4⟩
                have hb4' := Below.next hB3.out hB3.out.size hb4
                have hK4 := Lib.hid (hK3.out.below hb4)
                have hB4 := Lib.hid hb4'
                clear hb4 hb4'
                have f0 := hK4.out.cell 0
                have f1 := hK4.out.cell 1
                have g0 := hK4.out.frozen 0
                have g1 := hK4.out.frozen 1
                go_wp2
                exact ret_blk rfl rfl rfl (hK4.out.two (.string snm) (.string svl)) Tryd.underlying86 rfl (by kernel_rfl) ⟨hR.out, (hB4.out.setCell (p := ⟨w.heap.size, 0, none⟩) (Nat.le_refl _) _).setCell (p := ⟨w.heap.size, 1, none⟩) (Nat.le_refl _) _⟩

              · rw [if_pos k6] at hE
                rw [herr_ne k6] at hV
                replace k6 := Lib.hid k6
                have hR := Lib.hid (hbad.out _ (by decide) hE)
                replace hE := Lib.hid hE
                generalize vlE vl = ve at *
                generalize str (nmV nm) = snm at *
                generalize str (vlV vl) = svl at *
                generalize str nm = sn at *
                generalize str vl = sv at *
                go_enter Tryd.func62, Tryd.ntmps62
                go_wp2_with fail
                refine (hP1.out _).mono ?_
                rintro e w1 ⟨rfl, rfl⟩
                go_wp2_with fail
                refine (hP2.out _).mono ?_
                rintro e w1 ⟨rfl, rfl⟩
                go_wp2_with fail
                refine (hC.out _).mono ?_
                rintro e w1 ⟨rfl, n1, rfl⟩
                have hK1 := Lib.hid (hK0.out.drewN n1)
                have hB1 := Lib.hid (below_drewN hB0.out n1)
                go_wp2_with fail
                refine (hA.out _).mono ?_
                rintro e w2 ⟨rfl, hb2⟩
                have hb2' := Below.next hB1.out hB1.out.size hb2
                have hK2 := Lib.hid (hK1.out.below hb2)
                have hB2 := Lib.hid hb2'
                clear hb2 hb2'
                go_wp2_with fail
                refine (hN.out _).mono ?_
                rintro e w3 ⟨rfl, hb3⟩
                have hb3' := Below.next hB2.out hB2.out.size hb3
                have hK3 := Lib.hid (hK2.out.below hb3)
                have hB3 := Lib.hid hb3'
                clear hb3 hb3'
                go_wp2_with fail
                refine (hV.out _).mono ?_
                rintro e w4 ⟨rfl, hb4⟩
                have hb4' := Below.next hB3.out hB3.out.size hb4
                have hK4 := Lib.hid (hK3.out.below hb4)
                have hB4 := Lib.hid hb4'
                clear hb4 hb4'
                have f0 := hK4.out.cell 0
                have f1 := hK4.out.cell 1
                have g0 := hK4.out.frozen 0
                have g1 := hK4.out.frozen 1
                go_wp2
                exact ret_blk rfl rfl rfl (hK4.out.two (.string ByteArray.empty) (.string ByteArray.empty)) Tryd.underlying86 rfl (by kernel_rfl) ⟨hR.out, (hB4.out.setCell (p := ⟨w.heap.size, 0, none⟩) (Nat.le_refl _) _).setCell (p := ⟨w.heap.size, 1, none⟩) (Nat.le_refl _) _⟩

            · rw [if_pos k5] at hE
              rw [herr_ne k5] at hN
              replace k5 := Lib.hid k5
              have hR := Lib.hid (hbad.out _ (by decide) hE)
              replace hE := Lib.hid hE
              generalize nmE nm = ne at *
              generalize str (nmV nm) = snm at *
              generalize str nm = sn at *
              generalize str vl = sv at *
              go_enter Tryd.func62, Tryd.ntmps62
              go_wp2_with fail
              refine (hP1.out _).mono ?_
              rintro e w1 ⟨rfl, rfl⟩
              go_wp2_with fail
              refine (hP2.out _).mono ?_
              rintro e w1 ⟨rfl, rfl⟩
              go_wp2_with fail
              refine (hC.out _).mono ?_
              rintro e w1 ⟨rfl, n1, rfl⟩
              have hK1 := Lib.hid (hK0.out.drewN n1)
              have hB1 := Lib.hid (below_drewN hB0.out n1)
              go_wp2_with fail
              refine (hA.out _).mono ?_
              rintro e w2 ⟨rfl, hb2⟩
              have hb2' := Below.next hB1.out hB1.out.size hb2
              have hK2 := Lib.hid (hK1.out.below hb2)
              have hB2 := Lib.hid hb2'
              clear hb2 hb2'
              go_wp2_with fail
              refine (hN.out _).mono ?_
              rintro e w3 ⟨rfl, hb3⟩
              have hb3' := Below.next hB2.out hB2.out.size hb3
              have hK3 := Lib.hid (hK2.out.below hb3)
              have hB3 := Lib.hid hb3'
              clear hb3 hb3'
              have f0 := hK3.out.cell 0
              have f1 := hK3.out.cell 1
              have g0 := hK3.out.frozen 0
              have g1 := hK3.out.frozen 1
              go_wp2
              exact ret_blk rfl rfl rfl (hK3.out.two (.string ByteArray.empty) (.string ByteArray.empty)) Tryd.underlying86 rfl (by kernel_rfl) ⟨hR.out, (hB3.out.setCell (p := ⟨w.heap.size, 0, none⟩) (Nat.le_refl _) _).setCell (p := ⟨w.heap.size, 1, none⟩) (Nat.le_refl _) _⟩

end Go.Proofs.YtemlnmelicnneaaDoor
