/-
  Layer 5: ReadRequest.
-/
import Derived.Test.YtemlnmelicnneaaDoorHRdResp
import Derived.Test.YtemlnmelicnneaaDoorHHosted
namespace Go.Proofs.YtemlnmelicnneaaDoor
open Go.RowKit Syn Fr Hd Ck

namespace Hd
/-- The fields with the canonical host. -/
def rqF (l : List (List UInt8 × List UInt8)) : List (List UInt8 × List UInt8) := l.map (rep hostN ((hsX l).getD []))
/-- The method, the target and the version of a request line. -/
def rlM (l : List UInt8) : List UInt8 := stD l
def rlT (l : List UInt8) : List UInt8 := stD (stR l)
def rlV (l : List UInt8) : List UInt8 := stR (stR l)
/-- The error of the lines of a request. -/
def rqX (L : List (List UInt8)) : Int :=
  if mthB (rlM (L.headD [])) = false then 26 else if tgtB (rlM (L.headD [])) (rlT (L.headD [])) = false then 27 else if rlV (L.headD []) = verB then (if hdsE L.tail = 0 then (if hsX (L.tail.map hdV) = none then 29 else 0) else hdsE L.tail) else 28
theorem rqX_cons (l : List UInt8) (r : List (List UInt8)) : rqX (l :: r) = if mthB (rlM l) = false then 26 else if tgtB (rlM l) (rlT l) = false then 27 else if rlV l = verB then (if hdsE r = 0 then (if hsX (r.map hdV) = none then 29 else 0) else hdsE r) else 28 := rfl
/-- The error of a request that is read. -/
def rqE (b : List UInt8) : Int := if lnE b = 0 then rqX (lnL b) else lnE b
def rqM (b : List UInt8) : List UInt8 := rlM ((lnL b).headD [])
def rqT (b : List UInt8) : List UInt8 := rlT ((lnL b).headD [])
def rqL (b : List UInt8) : List (List UInt8 × List UInt8) := rqF ((lnL b).tail.map hdV)
def RqR (w : World) (b : List UInt8) (e : Ending) (w' : World) : Prop :=
  ((rqE b ≠ 0 ∧ e = .returned (.tuple #[.agg #[.string ByteArray.empty, .string ByteArray.empty, .slice none 0 0], .int .i64 0, .iface 59 (.int .i64 (rqE b))])) ∨ (rqE b = 0 ∧ ∃ o, e = .returned (.tuple #[.agg #[.string (str (rqM b)), .string (str (rqT b)), o], .int .i64 (endF b), .nilIface]) ∧ Rd w' 2 o (rqL b).length (prs (rqL b)))) ∧ Below w.heap.size w w'
theorem RqR.bad {w : World} {b : List UInt8} {n : Int} (h : rqE b = n) (h0 : n ≠ 0) (w' : World) (hb : Below w.heap.size w w') : RqR w b (.returned (.tuple #[.agg #[.string ByteArray.empty, .string ByteArray.empty, .slice none 0 0], .int .i64 0, .iface 59 (.int .i64 n)])) w' :=
  ⟨.inl ⟨by rw [h]; exact h0, by rw [h]⟩, hb⟩
theorem RqR.good {w w' : World} {b : List UInt8} {o : Value} (h : rqE b = 0) (ho : Rd w' 2 o (rqL b).length (prs (rqL b))) (hb : Below w.heap.size w w') : RqR w b (.returned (.tuple #[.agg #[.string (str (rqM b)), .string (str (rqT b)), o], .int .i64 (endF b), .nilIface])) w' :=
  ⟨.inr ⟨h, o, rfl, ho⟩, hb⟩
theorem stD_len (l : List UInt8) : (stD l).length ≤ l.length := (List.takeWhile_prefix (p := (· != 32)) (l := l)).length_le
theorem stR_len (l : List UInt8) : (stR l).length ≤ l.length := by
  have := (List.dropWhile_suffix (p := (· != 32)) (l := l)).length_le
  unfold stR; rw [List.length_drop]; omega
theorem hdV_len (l : List UInt8) : (hdV l).1.length ≤ l.length ∧ (hdV l).2.length ≤ l.length := by
  unfold hdV
  split
  · have h1 : (hdN l).length ≤ l.length := (List.takeWhile_prefix (p := (· != 58)) (l := l)).length_le
    have h2 : (hdR l).length ≤ l.length := by
      have := (List.dropWhile_suffix (p := (· != 58)) (l := l)).length_le
      unfold hdR; rw [List.length_drop]; omega
    refine ⟨?_, ?_⟩
    · have : (nmV (hdN l)).length ≤ (hdN l).length := by unfold nmV; split; rw [lower_length]; exact Nat.le_refl _; exact Nat.zero_le _
      exact Nat.le_trans this h1
    · have : (vlV (hdR l)).length ≤ (hdR l).length := by unfold vlV; split; exact trim_le _; exact Nat.zero_le _
      exact Nat.le_trans this h2
  · exact ⟨Nat.zero_le _, Nat.zero_le _⟩
end Hd
set_option maxRecDepth 100000 in
set_option maxHeartbeats 32000000 in
theorem rdreq_any (b : List UInt8) (A : Option Addr) (cap : Nat) (w : World) (hR : Rd w 1 (.slice A b.length cap) b.length (u8s b)) (hb : b.length ≤ 1000000) (hc0 : A = none → cap = 0) (hM : MaxL w) :
    Calls Tryd.prog 23 #[.slice A b.length cap] w (RqR w b) := by
  have hLn := Lib.hid (fun w' (hw : Below w.heap.size w w') => lines_any b A cap w' (hR.below hw) hb hc0 (hM.below hw))
  unfold LnR at hLn
  have hK0 := Lib.hid (Blk.new w 46 #[.string ByteArray.empty, .string ByteArray.empty, .slice none 0 0])
  have hB0 := Lib.hid ((Below.refl w.heap.size w).alloc (Nat.le_refl _) (.cells #[.string ByteArray.empty, .string ByteArray.empty, .slice none 0 0] 46))
  have hE : rqE b = if lnE b = 0 then rqX (lnL b) else lnE b := rfl
  replace hc0 := Lib.hid hc0
  replace hM := Lib.hid hM
  replace hR := Lib.hid hR
  by_cases k1 : lnE b = 0
  · rw [if_pos k1] at hE
    have hfew := lnE_few k1
    have hmost := lnL_most b
    have hSM : rqM b = rlM ((lnL b).headD []) := rfl
    have hST : rqT b = rlT ((lnL b).headD []) := rfl
    have hLL : rqL b = rqF ((lnL b).tail.map hdV) := rfl
    obtain ⟨l0, Lr, hL⟩ := spl_ne (b.take ((endF b).toNat - 4))
    replace hL : lnL b = l0 :: Lr := hL
    rw [hL] at hE hfew hmost hSM hST hLL
    rw [rqX_cons] at hE
    simp only [List.headD_cons, List.tail_cons] at hSM hST hLL
    rw [List.length_cons] at hfew
    have hl0 := hmost l0 (by simp)
    have hl1 := stR_len l0
    have hl2 := stD_len l0
    have hl3 := stD_len (stR l0)
    have hC := Lib.hid (fun w => cut_any (str l0) 32 w (by rw [str_size]; unfold maxLen; omega))
    have hC2 := fun w => cut_any (str (stR l0)) 32 w (by rw [str_size]; unfold maxLen; omega)
    unfold cutV at hC hC2
    rw [bs_str, show l0.takeWhile (· != 32) = rlM l0 from rfl, show (l0.dropWhile (· != 32)).drop 1 = stR l0 from rfl] at hC
    simp only [bs_str] at hC2
    rw [show (stR l0).takeWhile (· != 32) = rlT l0 from rfl, show ((stR l0).dropWhile (· != 32)).drop 1 = rlV l0 from rfl] at hC2
    replace hC2 := Lib.hid hC2
    have hMe := fun w => method_any (str (rlM l0)) w (by rw [str_size]; unfold rlM; omega)
    have hTa := fun w => target_any (str (rlM l0)) (str (rlT l0)) w (by rw [str_size]; unfold rlT; omega)
    simp only [bs_str] at hMe hTa
    have hHd := Lib.hid (fun v w h => headers_any Lr v w h (fun l hl => by have := hmost l (by simp [hl]); omega) (by omega))
    unfold HdsR at hHd
    have hHo := Lib.hid (fun v w h => hosted_any (Lr.map hdV) v w (fun p hp => by
      obtain ⟨l, hl, rfl⟩ := List.mem_map.1 hp
      have h1 := hdV_len l
      have h2 := hmost l (by simp [hl])
      omega) (by rw [List.length_map]; omega) h)
    unfold HosR at hHo
    have hv : ((str (rlV l0)).toList == [72, 84, 84, 80, 47, 49, 46, 49]) = decide (rlV l0 = verB) := by rw [lit_beq, bs_str]; rfl
    have hlm : (rqF (Lr.map hdV)).length = Lr.length := by unfold rqF; rw [List.length_map, List.length_map]
    have hgood := Lib.hid (fun (h : rqE b = 0) (w' : World) (o : Value) (ho : Rd w' 2 o Lr.length (prs (rqF (Lr.map hdV)))) (hb : Below w.heap.size w w') => show RqR w b (.returned (.tuple #[.agg #[.string (str (rlM l0)), .string (str (rlT l0)), o], .int .i64 (endF b), .nilIface])) w' by
      have := RqR.good (b := b) (o := o) h (by rw [hLL, hlm]; exact ho) hb
      rw [hSM, hST] at this; exact this)
    replace hLL := Lib.hid hLL
    replace hSM := Lib.hid hSM
    replace hST := Lib.hid hST
    replace hlm := Lib.hid hlm
    replace k1 := Lib.hid k1
    replace hL := Lib.hid hL
    replace hmost := Lib.hid hmost
    generalize str (rlV l0) = sv at *
    generalize str (rlM l0) = sm at *
    generalize str (rlT l0) = stg at *
    generalize str (stR l0) = sr at *
    cases k2 : mthB (rlM l0) with
    | false =>
      rw [if_pos k2] at hE
      have hR := Lib.hid (RqR.bad (w := w) hE (by decide))
      rw [k2] at hMe
      replace hMe := Lib.hid hMe
      replace hTa := Lib.hid hTa
      replace hE := Lib.hid hE
      replace k2 := Lib.hid k2
      go_enter Tryd.func23, Tryd.ntmps23
      go_wp2_with fail
      refine (hLn.out _ hB0.out).mono ?_
      rintro e w1 ⟨h1, hb1⟩
      obtain ⟨o1, rfl, hr1⟩ : ∃ o, e = .returned (.tuple #[o, .int .i64 (endF b), .nilIface]) ∧ Rd w1 1 o (l0 :: Lr).length (strs (l0 :: Lr)) := by
        rcases h1 with ⟨h1, -⟩ | ⟨-, o, h1, h2⟩
        · exact absurd k1.out h1
        · rw [hL.out] at h2; exact ⟨o, h1, h2⟩
      have hK1 := Lib.hid (hK0.out.below hb1)
      have hB1 := Lib.hid (Below.next hB0.out hB0.out.size hb1)
      clear hb1 h1
      obtain ⟨A1, c1, rfl, hc1, -, r1⟩ := id hr1
      obtain ⟨b1, off1, rfl, hl1, x1⟩ := r1 (by simp)
      have d1 : w1.cell? ⟨b1, off1 + 0, none⟩ = some (.string (str l0)) := x1 0 _ rfl
      rw [Nat.add_zero] at d1
      clear x1 r1
      replace hr1 := Lib.hid hr1
      go_wp2_with fail
      refine (hC.out _).mono ?_
      rintro e w2 ⟨rfl, n2, rfl⟩
      clear d1
      go_wp2_with fail
      refine (hC2.out _).mono ?_
      rintro e w3 ⟨rfl, n3, rfl⟩
      have hK3 := Lib.hid (hK1.out.drewN (n2 + n3))
      have hB3 := Lib.hid (below_drewN hB1.out (n2 + n3))
      go_wp2_with fail
      refine (hMe.out _).mono ?_
      rintro e w4 ⟨rfl, rfl⟩
      have f0 := hK3.out.cell 0
      have f1 := hK3.out.cell 1
      have f2 := hK3.out.cell 2
      have g0 := hK3.out.frozen 0
      have g1 := hK3.out.frozen 1
      have g2 := hK3.out.frozen 2
      go_wp2
      exact ret_blk3 rfl rfl rfl (hK3.out.three (.string ByteArray.empty) (.string ByteArray.empty) (.slice none 0 0)) Tryd.underlying46 rfl (by kernel_rfl) (hR.out _ (((hB3.out.setCell (p := ⟨w.heap.size, 0, none⟩) (Nat.le_refl _) _).setCell (p := ⟨w.heap.size, 1, none⟩) (Nat.le_refl _) _).setCell (p := ⟨w.heap.size, 2, none⟩) (Nat.le_refl _) _))

    | true =>
      rw [if_neg (by rw [k2]; decide)] at hE
      rw [k2] at hMe
      replace hMe := Lib.hid hMe
      replace k2 := Lib.hid k2
      cases k3 : tgtB (rlM l0) (rlT l0) with
      | false =>
        rw [if_pos k3] at hE
        have hR := Lib.hid (RqR.bad (w := w) hE (by decide))
        rw [k3] at hTa
        replace hTa := Lib.hid hTa
        replace hE := Lib.hid hE
        replace k3 := Lib.hid k3
        go_enter Tryd.func23, Tryd.ntmps23
        go_wp2_with fail
        refine (hLn.out _ hB0.out).mono ?_
        rintro e w1 ⟨h1, hb1⟩
        obtain ⟨o1, rfl, hr1⟩ : ∃ o, e = .returned (.tuple #[o, .int .i64 (endF b), .nilIface]) ∧ Rd w1 1 o (l0 :: Lr).length (strs (l0 :: Lr)) := by
          rcases h1 with ⟨h1, -⟩ | ⟨-, o, h1, h2⟩
          · exact absurd k1.out h1
          · rw [hL.out] at h2; exact ⟨o, h1, h2⟩
        have hK1 := Lib.hid (hK0.out.below hb1)
        have hB1 := Lib.hid (Below.next hB0.out hB0.out.size hb1)
        clear hb1 h1
        obtain ⟨A1, c1, rfl, hc1, -, r1⟩ := id hr1
        obtain ⟨b1, off1, rfl, hl1, x1⟩ := r1 (by simp)
        have d1 : w1.cell? ⟨b1, off1 + 0, none⟩ = some (.string (str l0)) := x1 0 _ rfl
        rw [Nat.add_zero] at d1
        clear x1 r1
        replace hr1 := Lib.hid hr1
        go_wp2_with fail
        refine (hC.out _).mono ?_
        rintro e w2 ⟨rfl, n2, rfl⟩
        clear d1
        go_wp2_with fail
        refine (hC2.out _).mono ?_
        rintro e w3 ⟨rfl, n3, rfl⟩
        have hK3 := Lib.hid (hK1.out.drewN (n2 + n3))
        have hB3 := Lib.hid (below_drewN hB1.out (n2 + n3))
        go_wp2_with fail
        refine (hMe.out _).mono ?_
        rintro e w4 ⟨rfl, rfl⟩
        go_wp2_with fail
        refine (hTa.out _).mono ?_
        rintro e w4 ⟨rfl, rfl⟩
        have f0 := hK3.out.cell 0
        have f1 := hK3.out.cell 1
        have f2 := hK3.out.cell 2
        have g0 := hK3.out.frozen 0
        have g1 := hK3.out.frozen 1
        have g2 := hK3.out.frozen 2
        go_wp2
        exact ret_blk3 rfl rfl rfl (hK3.out.three (.string ByteArray.empty) (.string ByteArray.empty) (.slice none 0 0)) Tryd.underlying46 rfl (by kernel_rfl) (hR.out _ (((hB3.out.setCell (p := ⟨w.heap.size, 0, none⟩) (Nat.le_refl _) _).setCell (p := ⟨w.heap.size, 1, none⟩) (Nat.le_refl _) _).setCell (p := ⟨w.heap.size, 2, none⟩) (Nat.le_refl _) _))

      | true =>
        rw [if_neg (by rw [k3]; decide)] at hE
        rw [k3] at hTa
        replace hTa := Lib.hid hTa
        replace k3 := Lib.hid k3
        by_cases k4 : rlV l0 = verB
        · rw [decide_eq_true k4] at hv
          rw [if_pos k4] at hE
          replace k4 := Lib.hid k4
          by_cases k6 : hdsE Lr = 0
          · rw [if_pos k6] at hE
            replace k6 := Lib.hid k6
            cases k7 : hsX (Lr.map hdV) with
            | none =>
              rw [if_pos k7] at hE
              have hR := Lib.hid (RqR.bad (w := w) hE (by decide))
              replace hE := Lib.hid hE
              replace k7 := Lib.hid k7
              go_enter Tryd.func23, Tryd.ntmps23
              go_wp2_with fail
              refine (hLn.out _ hB0.out).mono ?_
              rintro e w1 ⟨h1, hb1⟩
              obtain ⟨o1, rfl, hr1⟩ : ∃ o, e = .returned (.tuple #[o, .int .i64 (endF b), .nilIface]) ∧ Rd w1 1 o (l0 :: Lr).length (strs (l0 :: Lr)) := by
                rcases h1 with ⟨h1, -⟩ | ⟨-, o, h1, h2⟩
                · exact absurd k1.out h1
                · rw [hL.out] at h2; exact ⟨o, h1, h2⟩
              have hK1 := Lib.hid (hK0.out.below hb1)
              have hB1 := Lib.hid (Below.next hB0.out hB0.out.size hb1)
              clear hb1 h1
              obtain ⟨A1, c1, rfl, hc1, -, r1⟩ := id hr1
              obtain ⟨b1, off1, rfl, hl1, x1⟩ := r1 (by simp)
              have d1 : w1.cell? ⟨b1, off1 + 0, none⟩ = some (.string (str l0)) := x1 0 _ rfl
              rw [Nat.add_zero] at d1
              clear x1 r1
              replace hr1 := Lib.hid hr1
              go_wp2_with fail
              refine (hC.out _).mono ?_
              rintro e w2 ⟨rfl, n2, rfl⟩
              clear d1
              go_wp2_with fail
              refine (hC2.out _).mono ?_
              rintro e w3 ⟨rfl, n3, rfl⟩
              have hK3 := Lib.hid (hK1.out.drewN (n2 + n3))
              have hB3 := Lib.hid (below_drewN hB1.out (n2 + n3))
              go_wp2_with fail
              refine (hMe.out _).mono ?_
              rintro e w4 ⟨rfl, rfl⟩
              go_wp2_with fail
              refine (hTa.out _).mono ?_
              rintro e w4 ⟨rfl, rfl⟩
              rw [List.length_cons] at hc1
              by_cases hcp : c1 = 1
              · subst hcp
                obtain rfl : Lr = [] := by cases Lr with | nil => rfl | cons a r => simp at hc1
                have hr4 := Lib.hid (rd_none0 (w1.drewN (n2 + n3)) ⟨b1, off1, none⟩)
                go_wp2_with fail
                refine (hHd.out _ _ hr4.out).mono ?_
                rintro e w5 ⟨h5, hb5⟩
                have hb5' : Below w1.heap.size w1 w5 := ⟨hb5.os, hb5.tape, hb5.output, hb5.size, hb5.block⟩
                have hK5 := Lib.hid (hK1.out.below hb5')
                have hB5 := Lib.hid (Below.next hB1.out hB1.out.size hb5')
                clear hb5 hb5'
                obtain ⟨o5, rfl, ho5⟩ : ∃ o, e = .returned (.tuple #[o, .nilIface]) ∧ Rd w5 2 o (([] : List (List UInt8)).map hdV).length (prs (([] : List (List UInt8)).map hdV)) := by
                  rcases h5 with ⟨h5, -⟩ | ⟨-, o, h5, h6⟩
                  · exact absurd k6.out h5
                  · exact ⟨o, h5, Rd.own h6⟩
                clear h5
                go_wp2_with fail
                refine (hHo.out _ _ ho5).mono ?_
                rintro e w6 ⟨h6, hb6⟩
                have hK6 := Lib.hid (hK5.out.below hb6)
                have hB6 := Lib.hid (Below.next hB5.out hB5.out.size hb6)
                obtain rfl : e = .returned (.tuple #[.slice none 0 0, .iface 59 (.int .i64 29)]) := by
                  rcases h6 with ⟨-, h6⟩ | ⟨h, o, h6, -⟩
                  · exact h6
                  · rw [k7.out] at h6; cases h6
                clear h6 hb6
                have f0 := hK6.out.cell 0
                have f1 := hK6.out.cell 1
                have f2 := hK6.out.cell 2
                have g0 := hK6.out.frozen 0
                have g1 := hK6.out.frozen 1
                have g2 := hK6.out.frozen 2
                go_wp2
                exact ret_blk3 rfl rfl rfl (hK6.out.three (.string ByteArray.empty) (.string ByteArray.empty) (.slice none 0 0)) Tryd.underlying46 rfl (by kernel_rfl) (hR.out _ (((hB6.out.setCell (p := ⟨w.heap.size, 0, none⟩) (Nat.le_refl _) _).setCell (p := ⟨w.heap.size, 1, none⟩) (Nat.le_refl _) _).setCell (p := ⟨w.heap.size, 2, none⟩) (Nat.le_refl _) _))

              · have hr3 := rd_tail hr1.out
                have hc2 : Lr.length + 1 ≤ c1 := hc1
                obtain ⟨c, rfl⟩ : ∃ c, c1 = c + 2 := ⟨c1 - 2, by omega⟩
                clear hcp
                have hr4 := Lib.hid (hr3.drewN (n2 + n3))
                go_wp2_with fail
                refine (hHd.out _ _ hr4.out).mono ?_
                rintro e w5 ⟨h5, hb5⟩
                have hb5' : Below w1.heap.size w1 w5 := ⟨hb5.os, hb5.tape, hb5.output, hb5.size, hb5.block⟩
                have hK5 := Lib.hid (hK1.out.below hb5')
                have hB5 := Lib.hid (Below.next hB1.out hB1.out.size hb5')
                clear hb5 hb5'
                obtain ⟨o5, rfl, ho5⟩ : ∃ o, e = .returned (.tuple #[o, .nilIface]) ∧ Rd w5 2 o (Lr.map hdV).length (prs (Lr.map hdV)) := by
                  rcases h5 with ⟨h5, -⟩ | ⟨-, o, h5, h6⟩
                  · exact absurd k6.out h5
                  · exact ⟨o, h5, Rd.own h6⟩
                clear h5
                go_wp2_with fail
                refine (hHo.out _ _ ho5).mono ?_
                rintro e w6 ⟨h6, hb6⟩
                have hK6 := Lib.hid (hK5.out.below hb6)
                have hB6 := Lib.hid (Below.next hB5.out hB5.out.size hb6)
                obtain rfl : e = .returned (.tuple #[.slice none 0 0, .iface 59 (.int .i64 29)]) := by
                  rcases h6 with ⟨-, h6⟩ | ⟨h, o, h6, -⟩
                  · exact h6
                  · rw [k7.out] at h6; cases h6
                clear h6 hb6
                have f0 := hK6.out.cell 0
                have f1 := hK6.out.cell 1
                have f2 := hK6.out.cell 2
                have g0 := hK6.out.frozen 0
                have g1 := hK6.out.frozen 1
                have g2 := hK6.out.frozen 2
                go_wp2
                exact ret_blk3 rfl rfl rfl (hK6.out.three (.string ByteArray.empty) (.string ByteArray.empty) (.slice none 0 0)) Tryd.underlying46 rfl (by kernel_rfl) (hR.out _ (((hB6.out.setCell (p := ⟨w.heap.size, 0, none⟩) (Nat.le_refl _) _).setCell (p := ⟨w.heap.size, 1, none⟩) (Nat.le_refl _) _).setCell (p := ⟨w.heap.size, 2, none⟩) (Nat.le_refl _) _))

            | some h =>
              rw [if_neg (by rw [k7]; exact fun h => by cases h)] at hE
              have hgood2 := hgood.out hE
              replace hE := Lib.hid hE
              replace k7 := Lib.hid k7
              clear hgood
              have hgood := Lib.hid hgood2
              clear hgood2
              go_enter Tryd.func23, Tryd.ntmps23
              go_wp2_with fail
              refine (hLn.out _ hB0.out).mono ?_
              rintro e w1 ⟨h1, hb1⟩
              obtain ⟨o1, rfl, hr1⟩ : ∃ o, e = .returned (.tuple #[o, .int .i64 (endF b), .nilIface]) ∧ Rd w1 1 o (l0 :: Lr).length (strs (l0 :: Lr)) := by
                rcases h1 with ⟨h1, -⟩ | ⟨-, o, h1, h2⟩
                · exact absurd k1.out h1
                · rw [hL.out] at h2; exact ⟨o, h1, h2⟩
              have hK1 := Lib.hid (hK0.out.below hb1)
              have hB1 := Lib.hid (Below.next hB0.out hB0.out.size hb1)
              clear hb1 h1
              obtain ⟨A1, c1, rfl, hc1, -, r1⟩ := id hr1
              obtain ⟨b1, off1, rfl, hl1, x1⟩ := r1 (by simp)
              have d1 : w1.cell? ⟨b1, off1 + 0, none⟩ = some (.string (str l0)) := x1 0 _ rfl
              rw [Nat.add_zero] at d1
              clear x1 r1
              replace hr1 := Lib.hid hr1
              go_wp2_with fail
              refine (hC.out _).mono ?_
              rintro e w2 ⟨rfl, n2, rfl⟩
              clear d1
              go_wp2_with fail
              refine (hC2.out _).mono ?_
              rintro e w3 ⟨rfl, n3, rfl⟩
              have hK3 := Lib.hid (hK1.out.drewN (n2 + n3))
              have hB3 := Lib.hid (below_drewN hB1.out (n2 + n3))
              go_wp2_with fail
              refine (hMe.out _).mono ?_
              rintro e w4 ⟨rfl, rfl⟩
              go_wp2_with fail
              refine (hTa.out _).mono ?_
              rintro e w4 ⟨rfl, rfl⟩
              rw [List.length_cons] at hc1
              by_cases hcp : c1 = 1
              · subst hcp
                obtain rfl : Lr = [] := by cases Lr with | nil => rfl | cons a r => simp at hc1
                have hr4 := Lib.hid (rd_none0 (w1.drewN (n2 + n3)) ⟨b1, off1, none⟩)
                go_wp2_with fail
                refine (hHd.out _ _ hr4.out).mono ?_
                rintro e w5 ⟨h5, hb5⟩
                have hb5' : Below w1.heap.size w1 w5 := ⟨hb5.os, hb5.tape, hb5.output, hb5.size, hb5.block⟩
                have hK5 := Lib.hid (hK1.out.below hb5')
                have hB5 := Lib.hid (Below.next hB1.out hB1.out.size hb5')
                clear hb5 hb5'
                obtain ⟨o5, rfl, ho5⟩ : ∃ o, e = .returned (.tuple #[o, .nilIface]) ∧ Rd w5 2 o (([] : List (List UInt8)).map hdV).length (prs (([] : List (List UInt8)).map hdV)) := by
                  rcases h5 with ⟨h5, -⟩ | ⟨-, o, h5, h6⟩
                  · exact absurd k6.out h5
                  · exact ⟨o, h5, Rd.own h6⟩
                clear h5
                go_wp2_with fail
                refine (hHo.out _ _ ho5).mono ?_
                rintro e w6 ⟨h6, hb6⟩
                have hK6 := Lib.hid (hK5.out.below hb6)
                have hB6 := Lib.hid (Below.next hB5.out hB5.out.size hb6)
                obtain ⟨o6, rfl, ho6⟩ : ∃ o, e = .returned (.tuple #[o, .nilIface]) ∧ Own w6 w5.heap.size 86 2 o 0 (prs (rqF (([] : List (List UInt8)).map hdV))) := by
                  rcases h6 with ⟨h6, -⟩ | ⟨h', o, h6, h7, h8⟩
                  · rw [k7.out] at h6; cases h6
                  · rw [k7.out] at h6; cases h6
                    rw [List.length_map, List.length_map] at h8
                    refine ⟨o, h7, ?_⟩
                    unfold rqF; rw [k7.out]; exact h8
                have hlt6 : w.heap.size < w5.heap.size := hK5.out.lt
                obtain ⟨A6, c6, rfl, -, -, -⟩ := Rd.own ho6
                have ho7 := own_far (own_far (own_far ho6 (p := ⟨w.heap.size, 0, none⟩) hlt6 (.string sm)) (p := ⟨w.heap.size, 1, none⟩) hlt6 (.string stg)) (p := ⟨w.heap.size, 2, none⟩) hlt6 (.slice A6 0 c6)
                have hw := hgood.out _ _ (Rd.own ho7) (((hB6.out.setCell (p := ⟨w.heap.size, 0, none⟩) (Nat.le_refl _) (.string sm)).setCell (p := ⟨w.heap.size, 1, none⟩) (Nat.le_refl _) (.string stg)).setCell (p := ⟨w.heap.size, 2, none⟩) (Nat.le_refl _) (.slice A6 0 c6))
                replace hw := Lib.hid hw
                clear h6 hb6 ho6 ho7 hlt6
                have f0 := hK6.out.cell 0
                have f1 := hK6.out.cell 1
                have f2 := hK6.out.cell 2
                have g0 := hK6.out.frozen 0
                have g1 := hK6.out.frozen 1
                have g2 := hK6.out.frozen 2
                go_wp2
                exact ret_blk3 rfl rfl rfl (hK6.out.three (.string sm) (.string stg) (.slice A6 0 c6)) Tryd.underlying46 rfl (by kernel_rfl) hw.out

              · have hr3 := rd_tail hr1.out
                have hc2 : Lr.length + 1 ≤ c1 := hc1
                obtain ⟨c, rfl⟩ : ∃ c, c1 = c + 2 := ⟨c1 - 2, by omega⟩
                clear hcp
                have hr4 := Lib.hid (hr3.drewN (n2 + n3))
                go_wp2_with fail
                refine (hHd.out _ _ hr4.out).mono ?_
                rintro e w5 ⟨h5, hb5⟩
                have hb5' : Below w1.heap.size w1 w5 := ⟨hb5.os, hb5.tape, hb5.output, hb5.size, hb5.block⟩
                have hK5 := Lib.hid (hK1.out.below hb5')
                have hB5 := Lib.hid (Below.next hB1.out hB1.out.size hb5')
                clear hb5 hb5'
                obtain ⟨o5, rfl, ho5⟩ : ∃ o, e = .returned (.tuple #[o, .nilIface]) ∧ Rd w5 2 o (Lr.map hdV).length (prs (Lr.map hdV)) := by
                  rcases h5 with ⟨h5, -⟩ | ⟨-, o, h5, h6⟩
                  · exact absurd k6.out h5
                  · exact ⟨o, h5, Rd.own h6⟩
                clear h5
                go_wp2_with fail
                refine (hHo.out _ _ ho5).mono ?_
                rintro e w6 ⟨h6, hb6⟩
                have hK6 := Lib.hid (hK5.out.below hb6)
                have hB6 := Lib.hid (Below.next hB5.out hB5.out.size hb6)
                obtain ⟨o6, rfl, ho6⟩ : ∃ o, e = .returned (.tuple #[o, .nilIface]) ∧ Own w6 w5.heap.size 86 2 o Lr.length (prs (rqF (Lr.map hdV))) := by
                  rcases h6 with ⟨h6, -⟩ | ⟨h', o, h6, h7, h8⟩
                  · rw [k7.out] at h6; cases h6
                  · rw [k7.out] at h6; cases h6
                    rw [List.length_map, List.length_map] at h8
                    refine ⟨o, h7, ?_⟩
                    unfold rqF; rw [k7.out]; exact h8
                have hlt6 : w.heap.size < w5.heap.size := hK5.out.lt
                obtain ⟨A6, c6, rfl, -, -, -⟩ := Rd.own ho6
                have ho7 := own_far (own_far (own_far ho6 (p := ⟨w.heap.size, 0, none⟩) hlt6 (.string sm)) (p := ⟨w.heap.size, 1, none⟩) hlt6 (.string stg)) (p := ⟨w.heap.size, 2, none⟩) hlt6 (.slice A6 Lr.length c6)
                have hw := hgood.out _ _ (Rd.own ho7) (((hB6.out.setCell (p := ⟨w.heap.size, 0, none⟩) (Nat.le_refl _) (.string sm)).setCell (p := ⟨w.heap.size, 1, none⟩) (Nat.le_refl _) (.string stg)).setCell (p := ⟨w.heap.size, 2, none⟩) (Nat.le_refl _) (.slice A6 Lr.length c6))
                replace hw := Lib.hid hw
                clear h6 hb6 ho6 ho7 hlt6
                have f0 := hK6.out.cell 0
                have f1 := hK6.out.cell 1
                have f2 := hK6.out.cell 2
                have g0 := hK6.out.frozen 0
                have g1 := hK6.out.frozen 1
                have g2 := hK6.out.frozen 2
                go_wp2
                exact ret_blk3 rfl rfl rfl (hK6.out.three (.string sm) (.string stg) (.slice A6 Lr.length c6)) Tryd.underlying46 rfl (by kernel_rfl) hw.out

          · rw [if_neg k6] at hE
            have hR := Lib.hid (RqR.bad (w := w) hE k6)
            replace hE := Lib.hid hE
            replace k6 := Lib.hid k6
            go_enter Tryd.func23, Tryd.ntmps23
            go_wp2_with fail
            refine (hLn.out _ hB0.out).mono ?_
            rintro e w1 ⟨h1, hb1⟩
            obtain ⟨o1, rfl, hr1⟩ : ∃ o, e = .returned (.tuple #[o, .int .i64 (endF b), .nilIface]) ∧ Rd w1 1 o (l0 :: Lr).length (strs (l0 :: Lr)) := by
              rcases h1 with ⟨h1, -⟩ | ⟨-, o, h1, h2⟩
              · exact absurd k1.out h1
              · rw [hL.out] at h2; exact ⟨o, h1, h2⟩
            have hK1 := Lib.hid (hK0.out.below hb1)
            have hB1 := Lib.hid (Below.next hB0.out hB0.out.size hb1)
            clear hb1 h1
            obtain ⟨A1, c1, rfl, hc1, -, r1⟩ := id hr1
            obtain ⟨b1, off1, rfl, hl1, x1⟩ := r1 (by simp)
            have d1 : w1.cell? ⟨b1, off1 + 0, none⟩ = some (.string (str l0)) := x1 0 _ rfl
            rw [Nat.add_zero] at d1
            clear x1 r1
            replace hr1 := Lib.hid hr1
            go_wp2_with fail
            refine (hC.out _).mono ?_
            rintro e w2 ⟨rfl, n2, rfl⟩
            clear d1
            go_wp2_with fail
            refine (hC2.out _).mono ?_
            rintro e w3 ⟨rfl, n3, rfl⟩
            have hK3 := Lib.hid (hK1.out.drewN (n2 + n3))
            have hB3 := Lib.hid (below_drewN hB1.out (n2 + n3))
            go_wp2_with fail
            refine (hMe.out _).mono ?_
            rintro e w4 ⟨rfl, rfl⟩
            go_wp2_with fail
            refine (hTa.out _).mono ?_
            rintro e w4 ⟨rfl, rfl⟩
            rw [List.length_cons] at hc1
            by_cases hcp : c1 = 1
            · subst hcp
              obtain rfl : Lr = [] := by cases Lr with | nil => rfl | cons a r => simp at hc1
              exact absurd rfl k6.out

            · have hr3 := rd_tail hr1.out
              have hc2 : Lr.length + 1 ≤ c1 := hc1
              obtain ⟨c, rfl⟩ : ∃ c, c1 = c + 2 := ⟨c1 - 2, by omega⟩
              clear hcp
              have hr4 := Lib.hid (hr3.drewN (n2 + n3))
              go_wp2_with fail
              refine (hHd.out _ _ hr4.out).mono ?_
              rintro e w5 ⟨h5, hb5⟩
              have hb5' : Below w1.heap.size w1 w5 := ⟨hb5.os, hb5.tape, hb5.output, hb5.size, hb5.block⟩
              have hK5 := Lib.hid (hK1.out.below hb5')
              have hB5 := Lib.hid (Below.next hB1.out hB1.out.size hb5')
              clear hb5 hb5'
              obtain rfl : e = .returned (.tuple #[.slice none 0 0, .iface 59 (.int .i64 (hdsE Lr))]) := by
                rcases h5 with ⟨-, h5⟩ | ⟨h5, -⟩
                · exact h5
                · exact absurd h5 k6.out
              clear h5
              generalize hdsE Lr = he at *
              have f0 := hK5.out.cell 0
              have f1 := hK5.out.cell 1
              have f2 := hK5.out.cell 2
              have g0 := hK5.out.frozen 0
              have g1 := hK5.out.frozen 1
              have g2 := hK5.out.frozen 2
              go_wp2
              exact ret_blk3 rfl rfl rfl (hK5.out.three (.string ByteArray.empty) (.string ByteArray.empty) (.slice none 0 0)) Tryd.underlying46 rfl (by kernel_rfl) (hR.out _ (((hB5.out.setCell (p := ⟨w.heap.size, 0, none⟩) (Nat.le_refl _) _).setCell (p := ⟨w.heap.size, 1, none⟩) (Nat.le_refl _) _).setCell (p := ⟨w.heap.size, 2, none⟩) (Nat.le_refl _) _))

        · rw [decide_eq_false k4] at hv
          rw [if_neg k4] at hE
          have hR := Lib.hid (RqR.bad (w := w) hE (by decide))
          replace hE := Lib.hid hE
          replace k4 := Lib.hid k4
          go_enter Tryd.func23, Tryd.ntmps23
          go_wp2_with fail
          refine (hLn.out _ hB0.out).mono ?_
          rintro e w1 ⟨h1, hb1⟩
          obtain ⟨o1, rfl, hr1⟩ : ∃ o, e = .returned (.tuple #[o, .int .i64 (endF b), .nilIface]) ∧ Rd w1 1 o (l0 :: Lr).length (strs (l0 :: Lr)) := by
            rcases h1 with ⟨h1, -⟩ | ⟨-, o, h1, h2⟩
            · exact absurd k1.out h1
            · rw [hL.out] at h2; exact ⟨o, h1, h2⟩
          have hK1 := Lib.hid (hK0.out.below hb1)
          have hB1 := Lib.hid (Below.next hB0.out hB0.out.size hb1)
          clear hb1 h1
          obtain ⟨A1, c1, rfl, hc1, -, r1⟩ := id hr1
          obtain ⟨b1, off1, rfl, hl1, x1⟩ := r1 (by simp)
          have d1 : w1.cell? ⟨b1, off1 + 0, none⟩ = some (.string (str l0)) := x1 0 _ rfl
          rw [Nat.add_zero] at d1
          clear x1 r1
          replace hr1 := Lib.hid hr1
          go_wp2_with fail
          refine (hC.out _).mono ?_
          rintro e w2 ⟨rfl, n2, rfl⟩
          clear d1
          go_wp2_with fail
          refine (hC2.out _).mono ?_
          rintro e w3 ⟨rfl, n3, rfl⟩
          have hK3 := Lib.hid (hK1.out.drewN (n2 + n3))
          have hB3 := Lib.hid (below_drewN hB1.out (n2 + n3))
          go_wp2_with fail
          refine (hMe.out _).mono ?_
          rintro e w4 ⟨rfl, rfl⟩
          go_wp2_with fail
          refine (hTa.out _).mono ?_
          rintro e w4 ⟨rfl, rfl⟩
          have f0 := hK3.out.cell 0
          have f1 := hK3.out.cell 1
          have f2 := hK3.out.cell 2
          have g0 := hK3.out.frozen 0
          have g1 := hK3.out.frozen 1
          have g2 := hK3.out.frozen 2
          go_wp2
          exact ret_blk3 rfl rfl rfl (hK3.out.three (.string ByteArray.empty) (.string ByteArray.empty) (.slice none 0 0)) Tryd.underlying46 rfl (by kernel_rfl) (hR.out _ (((hB3.out.setCell (p := ⟨w.heap.size, 0, none⟩) (Nat.le_refl _) _).setCell (p := ⟨w.heap.size, 1, none⟩) (Nat.le_refl _) _).setCell (p := ⟨w.heap.size, 2, none⟩) (Nat.le_refl _) _))

  · rw [if_neg k1] at hE
    have hR := Lib.hid (RqR.bad (w := w) hE k1)
    replace hE := Lib.hid hE
    replace k1 := Lib.hid k1
    go_enter Tryd.func23, Tryd.ntmps23
    go_wp2_with fail
    refine (hLn.out _ hB0.out).mono ?_
    rintro e w1 ⟨h1, hb1⟩
    obtain rfl : e = .returned (.tuple #[.slice none 0 0, .int .i64 0, .iface 59 (.int .i64 (lnE b))]) := by
      rcases h1 with ⟨-, h1⟩ | ⟨h1, -⟩
      · exact h1
      · exact absurd h1 k1.out
    have hK1 := Lib.hid (hK0.out.below hb1)
    have hB1 := Lib.hid (Below.next hB0.out hB0.out.size hb1)
    clear hb1 h1
    generalize lnE b = le at *
    have f0 := hK1.out.cell 0
    have f1 := hK1.out.cell 1
    have f2 := hK1.out.cell 2
    have g0 := hK1.out.frozen 0
    have g1 := hK1.out.frozen 1
    have g2 := hK1.out.frozen 2
    go_wp2
    exact ret_blk3 rfl rfl rfl (hK1.out.three (.string ByteArray.empty) (.string ByteArray.empty) (.slice none 0 0)) Tryd.underlying46 rfl (by kernel_rfl) (hR.out _ (((hB1.out.setCell (p := ⟨w.heap.size, 0, none⟩) (Nat.le_refl _) _).setCell (p := ⟨w.heap.size, 1, none⟩) (Nat.le_refl _) _).setCell (p := ⟨w.heap.size, 2, none⟩) (Nat.le_refl _) _))

end Go.Proofs.YtemlnmelicnneaaDoor
