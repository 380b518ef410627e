/-
  Layer 5: the document's WriteResponse.
-/
import Derived.Test.YtemlnmelicnneaaDoorHResp
import Derived.Test.YtemlnmelicnneaaDoorGWr
namespace Go.Proofs.YtemlnmelicnneaaDoor
open Go.RowKit Syn Hd Ck

namespace Hd
/-- A response's two cells, and what lies below. -/
def RAt (w : World) (s : Int) (v : Value) (w' : World) : Prop := Below w.heap.size w w' ∧ Blk w' w.heap.size 24 #[.int .i64 s, v]
theorem RAt.below {w a b : World} {s : Int} {v : Value} (h : RAt w s v a) (hb : Below a.heap.size a b) : RAt w s v b :=
  ⟨Below.next h.1 h.1.size hb, h.2.below hb⟩
theorem RAt.at0 {w a : World} {s : Int} {v : Value} (h : RAt w s v a) : a.cell? ⟨w.heap.size, 0, none⟩ = some (.int .i64 s) := h.2.cell 0
theorem RAt.at1 {w a : World} {s : Int} {v : Value} (h : RAt w s v a) : a.cell? ⟨w.heap.size, 1, none⟩ = some v := h.2.cell 1
theorem RAt.more {w a b : World} {s : Int} {v : Value} (h : RAt w s v a ∧ a.cell? ⟨w.heap.size, 0, none⟩ = some (.int .i64 s)) (hb : Below a.heap.size a b) : RAt w s v b ∧ b.cell? ⟨w.heap.size, 0, none⟩ = some (.int .i64 s) :=
  ⟨h.1.below hb, (h.1.below hb).at0⟩
end Hd
set_option maxRecDepth 100000 in
set_option maxHeartbeats 16000000 in
theorem rwresp_in (n : Nat) (n1 : 100 ≤ n) (n2 : n ≤ 599) (l : List (List UInt8 × List UInt8)) (v : Value) (w : World) (hR : Rd w 2 v l.length (prs l)) (hs : ∀ p ∈ l, p.1.length ≤ 1000000 ∧ p.2.length ≤ 1000000) (hm : l.length ≤ 1000) :
    Calls Tryd.prog 13 #[.agg #[.int .i64 (n : Int), v]] w fun e w' => e = .returned (.tuple #[.string (str (wrB (n : Int) l)), .int .i64 (wrE (n : Int) l)]) ∧ Below w.heap.size w w' := by
  obtain ⟨A, cap, rfl, hcap, -, -⟩ := id hR
  have hK : RAt w (n : Int) (.slice A l.length cap) (w.alloc (.cells #[.int .i64 (n : Int), .slice A l.length cap] 24)) := ⟨(Below.refl w.heap.size w).alloc (Nat.le_refl _) _, Blk.new w _ _⟩
  have hRe := Lib.hid (fun w' => rreason_any (n : Int) (by omega) (by omega) w')
  have hRb := Lib.hid (fun w' (hb : Below w.heap.size w w') => rbody_any l (.slice A l.length cap) w' (hR.below hb) hs hm)
  replace hR := Lib.hid hR
  have hD := Lib.hid (fun w' => digits_any n (by omega) w')
  have a0 := hK.at0
  have hrl := rsn_len (n : Int)
  have q3 : (str (dg3 n)).size = 3 := rfl
  have zr : (str (rsn (n : Int))).size ≤ 40 := by rw [str_size]; exact hrl
  have z1 : ¬ 9223372036854775807 < 13 + (str (rsn (n : Int))).size := by omega
  have z2 : ¬ 9223372036854775807 < 13 + (str (rsn (n : Int))).size + 2 := by omega
  have q5 : (((⟨#[72, 84, 84, 80, 47, 49, 46, 49, 32]⟩ : ByteArray) ++ str (dg3 n)) ++ ⟨#[32]⟩ ++ str (rsn (n : Int)) ++ ⟨#[13, 10]⟩).size = 15 + (str (rsn (n : Int))).size := by
    rw [ByteArray.size_append, ByteArray.size_append, ByteArray.size_append, ByteArray.size_append, q3]
    show 9 + 3 + 1 + _ + 2 = _
    omega
  have zb : (str (lnsR l ++ [13, 10])).size = (lns l).length + 2 := by rw [str_size, List.length_append, lnsR_len]; rfl
  have q6 : (((⟨#[72, 84, 84, 80, 47, 49, 46, 49, 32]⟩ : ByteArray) ++ str (dg3 n)) ++ ⟨#[32]⟩ ++ str (rsn (n : Int)) ++ ⟨#[13, 10]⟩ ++ str (lnsR l ++ [13, 10])).size = 15 + (str (rsn (n : Int))).size + ((lns l).length + 2) := by rw [ByteArray.size_append, q5, zb]
  have hlen := lns_len l 1000000 hs
  have hE : wrE (n : Int) l = if 64 < l.length ∨ 8192 < 15 + (str (rsn (n : Int))).size + ((lns l).length + 2) then 5 else if okCs l = true then 0 else 25 := by
    unfold wrE largeB
    rw [str_size]
    by_cases h : 64 < l.length ∨ 8192 < 15 + (rsn (n : Int)).length + ((lns l).length + 2)
    · rw [if_pos h, if_pos (by simp; omega)]
    · rw [if_neg h, if_neg (by simp; omega), if_neg (by omega)]
  have hW : wrE (n : Int) l ≠ 0 → wrB (n : Int) l = [] := fun h => by unfold wrB; rw [if_neg h]
  have hT : okCs l = true → wrE (n : Int) l = 0 → str (wrB (n : Int) l) = ((⟨#[72, 84, 84, 80, 47, 49, 46, 49, 32]⟩ : ByteArray) ++ str (dg3 n)) ++ ⟨#[32]⟩ ++ str (rsn (n : Int)) ++ ⟨#[13, 10]⟩ ++ str (lnsR l ++ [13, 10]) := fun h1 h2 => by
    unfold wrB headB startB
    rw [if_pos h2, lnsR_ok l h1, ← str_append, ← str_append, ← str_append, ← str_append, ← str_append, ← str_append, ← str_append, ByteArray.append_assoc]
    rfl
  generalize str (lnsR l ++ [13, 10]) = sb at *
  generalize str (dg3 n) = sd at *
  generalize str (rsn (n : Int)) = sr at *
  replace hT := Lib.hid hT
  replace hW := Lib.hid hW
  go_enter Tryd.func13, Tryd.ntmps13
  go_wp2_with fail
  go_region_held3 (fun w' => RAt w (n : Int) (.slice A l.length cap) w' ∧ w'.cell? ⟨w.heap.size, 0, none⟩ = some (.int .i64 (n : Int))) (first | exact ⟨hK, hK.at0⟩ | exact RAt.more ⟨hK, hK.at0⟩ (Below.refl _ _).drew | exact RAt.more ⟨hK, hK.at0⟩ hb7 | exact RAt.more (by assumption) hb7 | exact RAt.more (by assumption) (by assumption) | exact RAt.more (by assumption) (Below.refl _ _).drew)
    (first | (go_at_call 32; refine (hD.out _).mono ?_; rintro e w6 ⟨rfl, hb6⟩; first | have hb7 := below_of_drew hb6 | have hb7 := hb6) | (go_at_call 16; refine (hRe.out _).mono ?_; rintro e w6 ⟨rfl, hb6⟩; first | have hb7 := below_of_drew hb6 | have hb7 := hb6))
  all_goals
    have hH : RAt w (n : Int) (.slice A l.length cap) w6 ∧ w6.cell? ⟨w.heap.size, 0, none⟩ = some (.int .i64 (n : Int)) := by assumption
    have a1 := hH.1.at1
    have hB6 := Lib.hid hH.1.1
    have hH6 := Lib.hid hH.1
    clear hH
    clear z1 z2
    go_wp2_with fail
    refine (hRb.out _ hB6.out).mono ?_
    rintro e w7 ⟨rfl, hb7⟩
    have h7 := hH6.out.below hb7
    have b1 := h7.at1
    have hB7 := Lib.hid h7.1
    clear hb7 h7
    replace a1 := Lib.hid a1
    by_cases k1 : 64 < l.length
    · rw [if_pos (.inl k1)] at hE
      have hF := hW.out (by rw [hE]; decide)
      replace hE := Lib.hid hE
      replace hF := Lib.hid hF
      go_wp2
      go_ret2
      exact ⟨by rw [hE.out, hF.out]; rfl, hB7.out⟩
    · by_cases k2 : 8192 < 15 + sr.size + ((lns l).length + 2)
      · rw [if_pos (.inr k2)] at hE
        have hF := hW.out (by rw [hE]; decide)
        replace hE := Lib.hid hE
        replace hF := Lib.hid hF
        go_wp2
        go_ret2
        exact ⟨by rw [hE.out, hF.out]; rfl, hB7.out⟩
      · rw [if_neg (by omega)] at hE
        cases hok : okCs l with
        | true =>
          rw [if_pos hok] at hE
          have hF := hT.out hok hE
          replace hE := Lib.hid hE
          replace hF := Lib.hid hF
          simp only [hok] at *
          go_wp2
          go_ret2
          exact ⟨by rw [hE.out, hF.out]; rfl, hB7.out⟩
        | false =>
          rw [if_neg (by rw [hok]; decide)] at hE
          have hF := hW.out (by rw [hE]; decide)
          replace hE := Lib.hid hE
          replace hF := Lib.hid hF
          go_wp2
          go_ret2
          exact ⟨by rw [hE.out, hF.out]; rfl, hB7.out⟩
end Go.Proofs.YtemlnmelicnneaaDoor
