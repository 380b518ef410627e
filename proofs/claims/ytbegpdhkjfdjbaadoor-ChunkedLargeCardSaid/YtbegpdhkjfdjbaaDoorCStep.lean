/-
  Layer 7: any byte that is no data, in the decoder.
-/
import Derived.Test.YtbegpdhkjfdjbaaDoorCTrail
namespace Go.Proofs.YtbegpdhkjfdjbaaDoor
open Go.RowKit Syn Ck

namespace Ck
theorem sized_keep {s : St} (hp : s.place ≤ 1) (c : UInt8) : (sized s c).place ≤ 2 ∧ (sized s c).sect = s.sect ∧ (sized s c).text = s.text ∧ (sized s c).fields = s.fields := by
  unfold sized
  repeat' split
  all_goals exact ⟨by dsimp only [St.err] <;> omega, rfl, rfl, rfl⟩
theorem step_keep {s : St} (hp : s.place ≤ 5) (h3 : s.place ≠ 3) (c : UInt8) : (Ck.step s c).place ≤ 6 ∧ (Ck.step s c).sect = s.sect ∧ (Ck.step s c).text = s.text ∧ (Ck.step s c).fields = s.fields := by
  unfold Ck.step
  split
  · rename_i h
    obtain ⟨h1, h2, h3, h4⟩ := sized_keep h c
    exact ⟨by omega, h2, h3, h4⟩
  · split
    · split
      · exact ⟨by dsimp only [St.err] <;> omega, rfl, rfl, rfl⟩
      · split <;> exact ⟨by dsimp only [St.err] <;> omega, rfl, rfl, rfl⟩
    · split
      · split <;> exact ⟨by dsimp only [St.err] <;> omega, rfl, rfl, rfl⟩
      · split
        · split <;> exact ⟨by dsimp only [St.err] <;> omega, rfl, rfl, rfl⟩
        · exfalso; omega
end Ck
set_option maxRecDepth 100000 in
set_option maxHeartbeats 8000000 in
theorem cstep_any {g : Nat} {w : World} {F : Nat → Prop} (s : St) (hd : Decv w g F s .nilIface) (hbd : s.bad = 0) (h3 : s.place ≠ 3) (h8 : s.place ≠ 8) (c : UInt8) :
    Calls Tryd.prog 32 #[.pointer (some ⟨g, 0, none⟩), .int .u8 (c.toNat : Int)] w fun e w' => e = .returned (errV (Ck.step s c).bad) ∧ Stp w g F (Ck.step s c) .nilIface w' := by
  obtain ⟨hF, hlt, p, l, d, z, t, vt, ca, tr, vf, hb, -, hR⟩ := hd
  obtain ⟨h, hfit, rfl, rfl, ht, hf, hFt, hFf⟩ := hR hbd
  have c0 := hb.cell 0
  have f0 := hb.frozen 0
  have c1 := hb.cell 1
  have f1 := hb.frozen 1
  have c2 := hb.cell 2
  have f2 := hb.frozen 2
  simp only [cells] at c0 c1 c2
  have hpl := h.place
  have key : s.place ≤ 1 ∨ s.place = 2 ∨ s.place = 4 ∨ s.place = 5 ∨ (6 ≤ s.place ∧ s.place ≤ 7) := by omega
  have hend : s.place ≤ 5 → ∀ w', Aft g w w' (Ck.step s c) vt (decide (s.place = 7)) s.sect vf → Stp w g F (Ck.step s c) .nilIface w' := fun h5 w' hA => by
    obtain ⟨k1, k2, k3, k4⟩ := step_keep h5 h3 c
    refine Stp.of hb hF hlt ht hf hFt hFf (by omega) (fun e => ⟨ok_step h c e, ?_, by rw [k2], k3, k4⟩) hA
    rw [decide_eq_false (show ¬ s.place = 7 by omega), decide_eq_false (show ¬ (Ck.step s c).place = 7 by omega)]
  rcases key with k | k | k | k | k
  · have hs : Ck.step s c = sized s c := by unfold Ck.step; rw [if_pos k]
    have hI := inline_any s h k c hfit vt vf (decide (s.place = 7)) s.sect hb
    rw [← hs] at hI
    have hp : p = 0 ∨ p = 2 := by
      rw [hfit.1]
      rcases (show s.place = 0 ∨ s.place = 1 by omega) with e | e <;> rw [e]
      · exact .inl rfl
      · exact .inr rfl
    replace hI := Lib.hid hI
    replace hend := Lib.hid hend
    clear hb ht hf hfit hFt hFf hF hlt hR hs
    rcases hp with rfl | rfl
    · go_enter Tryd.func32, Tryd.ntmps32
      go_wp2_with fail
      refine hI.out.mono ?_
      rintro e w' ⟨rfl, hA⟩
      replace hA := Lib.hid hA
      go_wp2
      go_ret
      exact ⟨rfl, hend.out (by omega) w' hA.out⟩
    · go_enter Tryd.func32, Tryd.ntmps32
      go_wp2_with fail
      refine hI.out.mono ?_
      rintro e w' ⟨rfl, hA⟩
      replace hA := Lib.hid hA
      go_wp2
      go_ret
      exact ⟨rfl, hend.out (by omega) w' hA.out⟩
  · have hs : Ck.step s c = endl s c := by unfold Ck.step; rw [if_neg (by omega), if_pos k]; rfl
    have hI := endline_any s h k c hfit vt vf (decide (s.place = 7)) s.sect hb
    rw [← hs] at hI
    have hp : p = 1 := by rw [hfit.1, k]; rfl
    subst hp
    replace hI := Lib.hid hI
    replace hend := Lib.hid hend
    clear hb ht hf hfit hFt hFf hF hlt hR hs
    go_enter Tryd.func32, Tryd.ntmps32
    go_wp2_with fail
    refine hI.out.mono ?_
    rintro e w' ⟨rfl, hA⟩
    replace hA := Lib.hid hA
    go_wp2
    go_ret
    exact ⟨rfl, hend.out (by omega) w' hA.out⟩
  · have hp : p = 4 := by rw [hfit.1, k]; rfl
    subst hp
    obtain ⟨rfl, rfl⟩ := hfit.2.2.2 (.inl k)
    have Hb := Lib.hid hb
    by_cases k2 : c.toNat = 13
    · have hs : Ck.step s c = { s with place := 5 } := by unfold Ck.step; rw [if_neg (by omega), if_neg (by omega), if_neg (by omega), if_pos k, if_neg (by omega)]
      have q : ((c.toNat : Int) != 13) = false := by rw [k2]; rfl
      rw [hs] at hend ⊢
      replace hend := Lib.hid hend
      replace k2 := Lib.hid k2
      clear hb ht hf hfit hFt hFf hF hlt hR hs
      go_enter Tryd.func32, Tryd.ntmps32
      go_wp2
      go_ret
      refine ⟨by first | rfl | (rw [hbd]; rfl), hend.out (by omega) _ ⟨(Kp.refl (· = g) w).set_ (fun _ => rfl) 0 (.int .i64 5), 5, _, _, 0, _, Hb.out.set_ 0 (.int .i64 5), by decide, fun _ => ⟨rfl, fun e => by change 5 ≤ 2 at e; omega, fun e => by change 5 = 3 at e; omega, fun _ => ⟨rfl, rfl⟩⟩⟩⟩
    · have hs : Ck.step s c = s.err 33 := by unfold Ck.step; rw [if_neg (by omega), if_neg (by omega), if_neg (by omega), if_pos k, if_pos k2]
      have q : ((c.toNat : Int) != 13) = true := by rw [bne_iff_ne]; omega
      rw [hs] at hend ⊢
      replace hend := Lib.hid hend
      replace k2 := Lib.hid k2
      clear hb ht hf hfit hFt hFf hF hlt hR hs
      go_enter Tryd.func32, Tryd.ntmps32
      go_wp2
      go_ret
      refine ⟨rfl, hend.out (by omega) _ ⟨Kp.refl (· = g) w, 4, _, _, _, _, Hb.out, by decide, fun e => absurd e (by simp [St.err])⟩⟩
  · have hp : p = 5 := by rw [hfit.1, k]; rfl
    subst hp
    obtain ⟨rfl, rfl⟩ := hfit.2.2.2 (.inr k)
    have Hb := Lib.hid hb
    by_cases k2 : c.toNat = 10
    · have hs : Ck.step s c = { s with place := 0, digits := 0, number := 0, line := 0 } := by unfold Ck.step; rw [if_neg (by omega), if_neg (by omega), if_neg (by omega), if_neg (by omega), if_pos k, if_neg (by omega)]
      have q : ((c.toNat : Int) != 10) = false := by rw [k2]; rfl
      rw [hs] at hend ⊢
      replace hend := Lib.hid hend
      replace k2 := Lib.hid k2
      clear hb ht hf hfit hFt hFf hF hlt hR hs
      go_enter Tryd.func32, Tryd.ntmps32
      go_wp2
      go_ret
      refine ⟨by first | rfl | (rw [hbd]; rfl), hend.out (by omega) _ ⟨(((Kp.refl (· = g) w).set_ (fun _ => rfl) 0 (.int .i64 0)).set_ (fun _ => rfl) 1 (.int .i64 0)).set_ (fun _ => rfl) 2 (.int .i64 0), 0, 0, 0, 0, _, ((Hb.out.set_ 0 (.int .i64 0)).set_ 1 (.int .i64 0)).set_ 2 (.int .i64 0), by decide, fun _ => ⟨rfl, fun e => ⟨rfl, rfl, rfl, rfl⟩, fun e => by change 0 = 3 at e; omega, fun e => by change 0 = 4 ∨ 0 = 5 at e; omega⟩⟩⟩
    · have hs : Ck.step s c = s.err 33 := by unfold Ck.step; rw [if_neg (by omega), if_neg (by omega), if_neg (by omega), if_neg (by omega), if_pos k, if_pos k2]
      have q : ((c.toNat : Int) != 10) = true := by rw [bne_iff_ne]; omega
      rw [hs] at hend ⊢
      replace hend := Lib.hid hend
      replace k2 := Lib.hid k2
      clear hb ht hf hfit hFt hFf hF hlt hR hs
      go_enter Tryd.func32, Tryd.ntmps32
      go_wp2
      go_ret
      refine ⟨rfl, hend.out (by omega) _ ⟨Kp.refl (· = g) w, 5, _, _, _, _, Hb.out, by decide, fun e => absurd e (by simp [St.err])⟩⟩
  · have hs : Ck.step s c = ended s c := by unfold Ck.step; rw [if_neg (by omega), if_neg (by omega), if_neg (by omega), if_neg (by omega), if_neg (by omega)]
    have hp : p = 6 := by
      rw [hfit.1]
      rcases (show s.place = 6 ∨ s.place = 7 by omega) with e | e <;> rw [e] <;> rfl
    subst hp
    have hI := trailer_any s h k c vt vf hb hF hlt ht hf hFt hFf
    rw [← hs] at hI
    replace hI := Lib.hid hI
    clear hb ht hf hfit hFt hFf hF hlt hR hend hs
    go_enter Tryd.func32, Tryd.ntmps32
    go_wp2_with fail
    refine hI.out.mono ?_
    rintro e w' ⟨rfl, hA⟩
    replace hA := Lib.hid hA
    go_wp2
    go_ret
    exact ⟨rfl, hA.out⟩
end Go.Proofs.YtbegpdhkjfdjbaaDoor
