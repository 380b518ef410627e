/-
  Layer 7: the end of a size line in the decoder.
-/
import Derived.Test.YtbegpdhkjfdjbaaDoorCLine
namespace Go.Proofs.YtbegpdhkjfdjbaaDoor
open Go.RowKit Syn Ck

namespace Ck
/-- The byte behind a size line. -/
def endl (s : St) (c : UInt8) : St := if c.toNat ≠ 10 then s.err 33 else if s.number = 0 then { s with place := 6, left := s.number } else { s with place := 3, left := s.number }
end Ck
set_option maxHeartbeats 4000000 in
theorem endline_any {g : Nat} {w : World} (s : St) (h : Ok s) (hp : s.place = 2) (c : UInt8) {p l d z t : Int} (hf : Fits s p l d z t) (vt vf : Value) (ca : Bool) (tr : Int) (hb : Blk w g 68 (cells p l d z t vt ca tr vf .nilIface)) :
    Calls Tryd.prog 48 #[.pointer (some ⟨g, 0, none⟩), .int .u8 (c.toNat : Int)] w fun e w' => e = .returned (errV (endl s c).bad) ∧ Aft g w w' (endl s c) vt ca tr vf := by
  obtain ⟨hf1, hf2, -, -⟩ := hf
  obtain ⟨rfl, rfl, rfl, rfl⟩ := hf2 (by omega)
  subst hf1
  have hz := h.size (by omega)
  have hbd := h.bad
  have c0 := hb.cell 0
  have c3 := hb.cell 3
  have c4 := hb.cell 4
  have f0 := hb.frozen 0
  have f3 := hb.frozen 3
  have f4 := hb.frozen 4
  simp only [cells] at c0 c3 c4
  have Hb := Lib.hid hb
  clear hb
  obtain ⟨pl, D, Z, L, T, lf, sc, tx, fl, bd⟩ := s
  simp only at hp hz hbd c0 c3 c4 Hb ⊢
  subst hbd
  subst hp
  clear h
  by_cases k1 : c.toNat = 10
  · have q : ((c.toNat : Int) != 10) = false := by rw [k1]; rfl
    by_cases k2 : Z = 0
    · subst k2
      have hs : Hid (endl ⟨2, D, 0, L, T, lf, sc, tx, fl, 0⟩ c = ⟨6, D, 0, L, T, 0, sc, tx, fl, 0⟩) := Lib.hid (by unfold endl; rw [if_neg (by omega), if_pos rfl])
      rw [hs.out]
      replace k1 := Lib.hid k1
      go_enter Tryd.func48, Tryd.ntmps48
      go_wp2
      go_region
      go_wp2
      go_ret
      exact ⟨rfl, ((((Kp.refl (· = g) w).set_ (fun _ => rfl) 0 (.int .i64 3)).set_ (fun _ => rfl) 4 (.int .i64 (T : Int))).set_ (fun _ => rfl) 0 (.int .i64 6)).drew, 6, _, _, 0, _, (((Hb.out.set_ 0 _).set_ 4 _).set_ 0 _).drew, by decide, fun _ => ⟨rfl, fun e => absurd e (by simp), fun e => absurd e (by simp), fun e => absurd e (by simp)⟩⟩
    · have q2 : ((Z : Int) == 0) = false := beq_cast_false k2
      have hs : Hid (endl ⟨2, D, Z, L, T, lf, sc, tx, fl, 0⟩ c = ⟨3, D, Z, L, T, Z, sc, tx, fl, 0⟩) := Lib.hid (by unfold endl; dsimp only; rw [if_neg (by omega), if_neg k2])
      rw [hs.out]
      replace k1 := Lib.hid k1
      replace k2 := Lib.hid k2
      go_enter Tryd.func48, Tryd.ntmps48
      go_wp2
      go_region
      go_wp2
      go_ret
      exact ⟨rfl, (((Kp.refl (· = g) w).set_ (fun _ => rfl) 0 (.int .i64 3)).set_ (fun _ => rfl) 4 (.int .i64 (T + Z : Int))).drew, 3, _, _, Z, (T + Z : Int), ((Hb.out.set_ 0 _).set_ 4 _).drew, by decide, fun _ => ⟨rfl, fun e => absurd e (by simp), fun _ => ⟨rfl, rfl⟩, fun e => absurd e (by simp)⟩⟩
  · have q : ((c.toNat : Int) != 10) = true := by rw [bne_iff_ne]; omega
    have hs : Hid (endl ⟨2, D, Z, L, T, lf, sc, tx, fl, 0⟩ c = ⟨2, D, Z, L, T, lf, sc, tx, fl, 33⟩) := Lib.hid (by unfold endl; rw [if_pos k1]; rfl)
    rw [hs.out]
    replace k1 := Lib.hid k1
    go_enter Tryd.func48, Tryd.ntmps48
    go_wp2
    go_ret
    exact ⟨rfl, Kp.refl (· = g) w, _, _, _, _, _, Hb.out, by decide, fun e => absurd e (by simp)⟩
end Go.Proofs.YtbegpdhkjfdjbaaDoor
