/-
  Layer 7: a size line in the decoder.
-/
import Derived.Test.YtbegpdhkjfdjbaaDoorCDec
namespace Go.Proofs.YtbegpdhkjfdjbaaDoor
open Go.RowKit Syn Ck

namespace Ck
/-- How the cells stand for a state without error. -/
def Fits (s : St) (p l d z t : Int) : Prop :=
  p = cp s.place ∧ (s.place ≤ 2 → l = s.line ∧ d = s.digits ∧ z = s.number ∧ t = s.total) ∧ (s.place = 3 → z = s.left ∧ t = s.total + s.left) ∧ (s.place = 4 ∨ s.place = 5 → z = 0 ∧ t = s.total)
/-- What a step leaves in the decoder's block besides the texts' rows. -/
def Aft (g : Nat) (w w' : World) (s : St) (vt : Value) (ca : Bool) (tr : Int) (vf : Value) : Prop :=
  Kp (· = g) w w' ∧ ∃ p l d z t, Blk w' g 68 (cells p l d z t vt ca tr vf .nilIface) ∧ p ≠ 7 ∧ (s.bad = 0 → Fits s p l d z t)
theorem errV_33 : errV 33 = .iface 46 (.int .i64 33) := rfl
theorem errV_34 : errV 34 = .iface 46 (.int .i64 34) := rfl
theorem errV_5 : errV 5 = .iface 46 (.int .i64 5) := rfl
end Ck
set_option maxHeartbeats 4000000 in
theorem inline_any {g : Nat} {w : World} (s : St) (h : Ok s) (hp : s.place ≤ 1) (c : UInt8) {p l d z t : Int} (hf : Fits s p l d z t) (vt vf : Value) (ca : Bool) (tr : Int) (hb : Blk w g 68 (cells p l d z t vt ca tr vf .nilIface)) :
    Calls Tryd.prog 47 #[.pointer (some ⟨g, 0, none⟩), .int .u8 (c.toNat : Int)] w fun e w' => e = .returned (errV (sized s c).bad) ∧ Aft g w w' (sized s c) vt ca tr vf := by
  obtain ⟨hf1, hf2, -, -⟩ := hf
  obtain ⟨rfl, rfl, rfl, rfl⟩ := hf2 (by omega)
  subst hf1
  have hl := h.line
  have hdg := h.digits
  have hz := h.size (by omega)
  have hbd := h.bad
  have c0 := hb.cell 0
  have c1 := hb.cell 1
  have c2 := hb.cell 2
  have c3 := hb.cell 3
  have c4 := hb.cell 4
  have f0 := hb.frozen 0
  have f1 := hb.frozen 1
  have f2 := hb.frozen 2
  have f3 := hb.frozen 3
  have f4 := hb.frozen 4
  simp only [cells] at c0 c1 c2 c3 c4
  have Hb := Lib.hid hb
  clear hb
  obtain ⟨pl, D, Z, L, T, lf, sc, tx, fl, bd⟩ := s
  simp only at hp hl hdg hz hbd c0 c1 c2 c3 c4 Hb ⊢
  subst hbd
  clear h
  have h8 : D ≠ 8 → D < 8 := fun e => by omega
  have key : (c.toNat = 13 ∧ 0 < D) ∨ (¬ (c.toNat = 13 ∧ 0 < D) ∧ L = 256) ∨ (¬ (c.toNat = 13 ∧ 0 < D) ∧ L < 256) := by omega
  have kp : pl = 0 ∨ pl = 1 := by omega
  rcases key with ⟨k1, k2⟩ | ⟨k1, k2⟩ | ⟨k1, k2⟩
  · have q : ((c.toNat : Int) == 13) = true := beq_cast_true k1
    have hs : Hid (sized ⟨pl, D, Z, L, T, lf, sc, tx, fl, 0⟩ c = ⟨2, D, Z, L, T, lf, sc, tx, fl, 0⟩) := Lib.hid (by unfold sized; dsimp only; rw [if_pos ⟨k1, k2⟩])
    rw [hs.out]
    replace k1 := Lib.hid k1
    go_enter Tryd.func47, Tryd.ntmps47
    go_wp2
    go_ret
    exact ⟨rfl, ((Kp.refl (· = g) w).set_ (fun _ => rfl) 0 (.int .i64 1)), 1, L, D, Z, T, (Hb.out.set_ 0 (.int .i64 1)), by decide, fun _ => ⟨rfl, fun _ => ⟨rfl, rfl, rfl, rfl⟩, fun e => absurd e (by simp), fun e => absurd e (by simp)⟩⟩
  · subst k2
    have k3 : c.toNat ≠ 13 ∨ (c.toNat = 13 ∧ D = 0) := by omega
    rcases k3 with k3 | ⟨k3, k4⟩
    · have q : ((c.toNat : Int) == 13) = false := beq_cast_false k3
      have hs : Hid (sized ⟨pl, D, Z, 256, T, lf, sc, tx, fl, 0⟩ c = ⟨pl, D, Z, 256, T, lf, sc, tx, fl, 33⟩) := Lib.hid (by unfold sized; dsimp only; rw [if_neg k1]; rfl)
      rw [hs.out]
      have hcp := Lib.hid (cp_le (p := pl) (by omega))
      replace k1 := Lib.hid k1
      replace k3 := Lib.hid k3
      go_enter Tryd.func47, Tryd.ntmps47
      go_wp2
      go_ret
      exact ⟨rfl, (Kp.refl (· = g) w), _, _, _, _, _, Hb.out, hcp.out, fun e => absurd e (by simp)⟩
    · have q : ((c.toNat : Int) == 13) = true := beq_cast_true k3
      subst k4
      have hs : Hid (sized ⟨pl, 0, Z, 256, T, lf, sc, tx, fl, 0⟩ c = ⟨pl, 0, Z, 256, T, lf, sc, tx, fl, 33⟩) := Lib.hid (by unfold sized; dsimp only; rw [if_neg k1]; rfl)
      rw [hs.out]
      have hcp := Lib.hid (cp_le (p := pl) (by omega))
      replace k1 := Lib.hid k1
      replace k3 := Lib.hid k3
      go_enter Tryd.func47, Tryd.ntmps47
      go_wp2
      go_ret
      exact ⟨rfl, (Kp.refl (· = g) w), _, _, _, _, _, Hb.out, hcp.out, fun e => absurd e (by simp)⟩
  · have kl : L ≠ 256 := by omega
    rcases kp with rfl | rfl
    · rw [show cp 0 = 0 from rfl] at c0 Hb
      have k3 : c.toNat ≠ 13 ∨ (c.toNat = 13 ∧ D = 0) := by omega
      rcases k3 with k3 | ⟨k3, k4⟩
      · have q : ((c.toNat : Int) == 13) = false := beq_cast_false k3
        by_cases k5 : c.toNat = 59
        · have q2 : ((c.toNat : Int) == 59) = true := beq_cast_true k5
          by_cases k6 : 0 < D
          · clear h8
            have hs : Hid (sized ⟨0, D, Z, L, T, lf, sc, tx, fl, 0⟩ c = ⟨1, D, Z, L + 1, T, lf, sc, tx, fl, 0⟩) := Lib.hid (by unfold sized; dsimp only; rw [if_neg k1, if_neg kl, if_neg (by decide)]; rw [if_pos ⟨k5, k6⟩])
            rw [hs.out]
            replace k1 := Lib.hid k1
            replace k3 := Lib.hid k3
            replace k5 := Lib.hid k5
            go_enter Tryd.func47, Tryd.ntmps47
            go_wp2
            go_ret
            exact ⟨rfl, (((Kp.refl (· = g) w).set_ (fun _ => rfl) 1 (.int .i64 (L + 1 : Int))).set_ (fun _ => rfl) 0 (.int .i64 2)), 2, (L + 1 : Nat), D, Z, T, ((Hb.out.set_ 1 (.int .i64 (L + 1 : Int))).set_ 0 (.int .i64 2)), by decide, fun _ => ⟨rfl, fun _ => ⟨rfl, rfl, rfl, rfl⟩, fun e => absurd e (by simp), fun e => absurd e (by simp)⟩⟩
          · obtain rfl : D = 0 := by omega
            have hx : hexv c = none := by unfold hexv; rw [k5]; rfl
            have hd : ∀ w, _ := digit_any c
            rw [hexI_none hx] at hd
            have hs : Hid (sized ⟨0, 0, Z, L, T, lf, sc, tx, fl, 0⟩ c = ⟨0, 0, Z, L, T, lf, sc, tx, fl, 33⟩) := Lib.hid (by unfold sized; dsimp only; rw [if_neg k1, if_neg kl, if_neg (by decide)]; rw [if_neg (by omega), hx]; rfl)
            rw [hs.out]
            replace hd := Lib.hid hd
            replace hx := Lib.hid hx
            replace k1 := Lib.hid k1
            replace k3 := Lib.hid k3
            replace k5 := Lib.hid k5
            go_enter Tryd.func47, Tryd.ntmps47
            go_wp2_with fail
            refine (hd.out _).mono ?_
            rintro e w2 ⟨rfl, rfl⟩
            go_wp2
            go_ret
            exact ⟨rfl, ((Kp.refl (· = g) w).set_ (fun _ => rfl) 1 (.int .i64 (L + 1 : Int))), _, _, _, _, _, (Hb.out.set_ 1 (.int .i64 (L + 1 : Int))), by decide, fun e => absurd e (by simp)⟩
        · have q2 : ((c.toNat : Int) == 59) = false := beq_cast_false k5
          have hd : ∀ w, _ := digit_any c
          cases hx : hexv c with
          | none =>
            rw [hexI_none hx] at hd
            have hs : Hid (sized ⟨0, D, Z, L, T, lf, sc, tx, fl, 0⟩ c = ⟨0, D, Z, L, T, lf, sc, tx, fl, 33⟩) := Lib.hid (by unfold sized; dsimp only; rw [if_neg k1, if_neg kl, if_neg (by decide)]; rw [if_neg (by omega), hx]; rfl)
            rw [hs.out]
            replace hd := Lib.hid hd
            replace hx := Lib.hid hx
            replace k1 := Lib.hid k1
            replace k3 := Lib.hid k3
            replace k5 := Lib.hid k5
            go_enter Tryd.func47, Tryd.ntmps47
            go_wp2_with fail
            refine (hd.out _).mono ?_
            rintro e w2 ⟨rfl, rfl⟩
            go_wp2
            go_ret
            exact ⟨rfl, ((Kp.refl (· = g) w).set_ (fun _ => rfl) 1 (.int .i64 (L + 1 : Int))), _, _, _, _, _, (Hb.out.set_ 1 (.int .i64 (L + 1 : Int))), by decide, fun e => absurd e (by simp)⟩
          | some n =>
            rw [hexI_some hx] at hd
            have hn := hexv_lt hx
            by_cases k7 : D = 8
            · subst k7
              have hs : Hid (sized ⟨0, 8, Z, L, T, lf, sc, tx, fl, 0⟩ c = ⟨0, 8, Z, L, T, lf, sc, tx, fl, 33⟩) := Lib.hid (by unfold sized; dsimp only; rw [if_neg k1, if_neg kl, if_neg (by decide)]; rw [if_neg (by omega), hx]; rfl)
              rw [hs.out]
              replace hd := Lib.hid hd
              replace hx := Lib.hid hx
              replace k1 := Lib.hid k1
              replace k3 := Lib.hid k3
              replace k5 := Lib.hid k5
              go_enter Tryd.func47, Tryd.ntmps47
              go_wp2_with fail
              refine (hd.out _).mono ?_
              rintro e w2 ⟨rfl, rfl⟩
              go_wp2
              go_ret
              exact ⟨rfl, ((Kp.refl (· = g) w).set_ (fun _ => rfl) 1 (.int .i64 (L + 1 : Int))), _, _, _, _, _, (Hb.out.set_ 1 (.int .i64 (L + 1 : Int))), by decide, fun e => absurd e (by simp)⟩
            · have q8 : ((D : Int) == 8) = false := beq_cast_false k7
              by_cases k9 : 65536 < T + (16 * Z + n)
              · have k10 : (65536 : Int) < T + (16 * Z + n) := by omega
                have hs : Hid (sized ⟨0, D, Z, L, T, lf, sc, tx, fl, 0⟩ c = ⟨0, D + 1, 16 * Z + n, L, T, lf, sc, tx, fl, 5⟩) := Lib.hid (by unfold sized; dsimp only; rw [if_neg k1, if_neg kl, if_neg (by decide)]; rw [if_neg (by omega), hx]; show (if D = 8 then _ else if 65536 < T + (16 * Z + n) then _ else _) = _; rw [if_neg k7, if_pos k9])
                rw [hs.out]
                replace hd := Lib.hid hd
                replace hx := Lib.hid hx
                replace k1 := Lib.hid k1
                replace k3 := Lib.hid k3
                replace k5 := Lib.hid k5
                replace k7 := Lib.hid k7
                replace k9 := Lib.hid k9
                go_enter Tryd.func47, Tryd.ntmps47
                go_wp2_with fail
                refine (hd.out _).mono ?_
                rintro e w2 ⟨rfl, rfl⟩
                go_wp2
                go_region
                go_wp2
                go_ret
                exact ⟨rfl, ((((Kp.refl (· = g) w).set_ (fun _ => rfl) 1 (.int .i64 (L + 1 : Int))).set_ (fun _ => rfl) 2 (.int .i64 (D + 1 : Int))).set_ (fun _ => rfl) 3 (.int .i64 (16 * Z + n : Int))).drew, _, _, _, _, _, (((Hb.out.set_ 1 (.int .i64 (L + 1 : Int))).set_ 2 (.int .i64 (D + 1 : Int))).set_ 3 (.int .i64 (16 * Z + n : Int))).drew, by decide, fun e => absurd e (by simp)⟩
              · have k10 : ¬ (65536 : Int) < T + (16 * Z + n) := by omega
                have hs : Hid (sized ⟨0, D, Z, L, T, lf, sc, tx, fl, 0⟩ c = ⟨0, D + 1, 16 * Z + n, L + 1, T, lf, sc, tx, fl, 0⟩) := Lib.hid (by unfold sized; dsimp only; rw [if_neg k1, if_neg kl, if_neg (by decide)]; rw [if_neg (by omega), hx]; show (if D = 8 then _ else if 65536 < T + (16 * Z + n) then _ else _) = _; rw [if_neg k7, if_neg k9])
                rw [hs.out]
                replace hd := Lib.hid hd
                replace hx := Lib.hid hx
                replace k1 := Lib.hid k1
                replace k3 := Lib.hid k3
                replace k5 := Lib.hid k5
                replace k7 := Lib.hid k7
                replace k9 := Lib.hid k9
                go_enter Tryd.func47, Tryd.ntmps47
                go_wp2_with fail
                refine (hd.out _).mono ?_
                rintro e w2 ⟨rfl, rfl⟩
                go_wp2
                go_region
                go_wp2
                go_ret
                exact ⟨rfl, ((((Kp.refl (· = g) w).set_ (fun _ => rfl) 1 (.int .i64 (L + 1 : Int))).set_ (fun _ => rfl) 2 (.int .i64 (D + 1 : Int))).set_ (fun _ => rfl) 3 (.int .i64 (16 * Z + n : Int))).drew, 0, (L + 1 : Nat), (D + 1 : Nat), (16 * Z + n : Nat), T, (((Hb.out.set_ 1 (.int .i64 (L + 1 : Int))).set_ 2 (.int .i64 (D + 1 : Int))).set_ 3 (.int .i64 (16 * Z + n : Int))).drew, by decide, fun _ => ⟨rfl, fun _ => ⟨rfl, rfl, rfl, rfl⟩, fun e => absurd e (by simp), fun e => absurd e (by simp)⟩⟩
      · have q : ((c.toNat : Int) == 13) = true := beq_cast_true k3
        subst k4
        have hx : hexv c = none := by unfold hexv; rw [k3]; rfl
        have q2 : ((c.toNat : Int) == 59) = false := beq_cast_false (show c.toNat ≠ 59 by omega)
        have hd : ∀ w, _ := digit_any c
        rw [hexI_none hx] at hd
        have hs : Hid (sized ⟨0, 0, Z, L, T, lf, sc, tx, fl, 0⟩ c = ⟨0, 0, Z, L, T, lf, sc, tx, fl, 33⟩) := Lib.hid (by unfold sized; dsimp only; rw [if_neg k1, if_neg kl, if_neg (by decide)]; rw [if_neg (by omega), hx]; rfl)
        rw [hs.out]
        replace hd := Lib.hid hd
        replace hx := Lib.hid hx
        replace k1 := Lib.hid k1
        replace k3 := Lib.hid k3
        go_enter Tryd.func47, Tryd.ntmps47
        go_wp2_with fail
        refine (hd.out _).mono ?_
        rintro e w2 ⟨rfl, rfl⟩
        go_wp2
        go_ret
        exact ⟨rfl, ((Kp.refl (· = g) w).set_ (fun _ => rfl) 1 (.int .i64 (L + 1 : Int))), _, _, _, _, _, (Hb.out.set_ 1 (.int .i64 (L + 1 : Int))), by decide, fun e => absurd e (by simp)⟩
    · rw [show cp 1 = 2 from rfl] at c0 Hb
      have k3 : c.toNat ≠ 13 ∨ (c.toNat = 13 ∧ D = 0) := by omega
      rcases k3 with k3 | ⟨k3, k4⟩
      · have q : ((c.toNat : Int) == 13) = false := beq_cast_false k3
        have hd : ∀ w, _ := ckcontrol_any c
        cases hx : ctl c
        · rw [hx] at hd
          have hs : Hid (sized ⟨1, D, Z, L, T, lf, sc, tx, fl, 0⟩ c = ⟨1, D, Z, L + 1, T, lf, sc, tx, fl, 0⟩) := Lib.hid (by unfold sized; dsimp only; rw [if_neg k1, if_neg kl, if_pos rfl, hx]; rfl)
          rw [hs.out]
          replace hd := Lib.hid hd
          replace hx := Lib.hid hx
          replace k1 := Lib.hid k1
          replace k3 := Lib.hid k3
          go_enter Tryd.func47, Tryd.ntmps47
          go_wp2_with fail
          refine (hd.out _).mono ?_
          rintro e w2 ⟨rfl, rfl⟩
          go_wp2
          go_ret
          exact ⟨rfl, ((Kp.refl (· = g) w).set_ (fun _ => rfl) 1 (.int .i64 (L + 1 : Int))), 2, (L + 1 : Nat), D, Z, T, (Hb.out.set_ 1 (.int .i64 (L + 1 : Int))), by decide, fun _ => ⟨rfl, fun _ => ⟨rfl, rfl, rfl, rfl⟩, fun e => absurd e (by simp), fun e => absurd e (by simp)⟩⟩
        · rw [hx] at hd
          have hs : Hid (sized ⟨1, D, Z, L, T, lf, sc, tx, fl, 0⟩ c = ⟨1, D, Z, L, T, lf, sc, tx, fl, 33⟩) := Lib.hid (by unfold sized; dsimp only; rw [if_neg k1, if_neg kl, if_pos rfl, hx]; rfl)
          rw [hs.out]
          replace hd := Lib.hid hd
          replace hx := Lib.hid hx
          replace k1 := Lib.hid k1
          replace k3 := Lib.hid k3
          go_enter Tryd.func47, Tryd.ntmps47
          go_wp2_with fail
          refine (hd.out _).mono ?_
          rintro e w2 ⟨rfl, rfl⟩
          go_wp2
          go_ret
          exact ⟨rfl, ((Kp.refl (· = g) w).set_ (fun _ => rfl) 1 (.int .i64 (L + 1 : Int))), _, _, _, _, _, (Hb.out.set_ 1 (.int .i64 (L + 1 : Int))), by decide, fun e => absurd e (by simp)⟩
      · have q : ((c.toNat : Int) == 13) = true := beq_cast_true k3
        subst k4
        have hx : ctl c = true := by unfold ctl; rw [k3]; rfl
        have hd : ∀ w, _ := ckcontrol_any c
        rw [hx] at hd
        have hs : Hid (sized ⟨1, 0, Z, L, T, lf, sc, tx, fl, 0⟩ c = ⟨1, 0, Z, L, T, lf, sc, tx, fl, 33⟩) := Lib.hid (by unfold sized; dsimp only; rw [if_neg k1, if_neg kl, if_pos rfl, hx]; rfl)
        rw [hs.out]
        replace hd := Lib.hid hd
        replace hx := Lib.hid hx
        replace k1 := Lib.hid k1
        replace k3 := Lib.hid k3
        go_enter Tryd.func47, Tryd.ntmps47
        go_wp2_with fail
        refine (hd.out _).mono ?_
        rintro e w2 ⟨rfl, rfl⟩
        go_wp2
        go_ret
        exact ⟨rfl, ((Kp.refl (· = g) w).set_ (fun _ => rfl) 1 (.int .i64 (L + 1 : Int))), _, _, _, _, _, (Hb.out.set_ 1 (.int .i64 (L + 1 : Int))), by decide, fun e => absurd e (by simp)⟩
end Go.Proofs.YtbegpdhkjfdjbaaDoor
