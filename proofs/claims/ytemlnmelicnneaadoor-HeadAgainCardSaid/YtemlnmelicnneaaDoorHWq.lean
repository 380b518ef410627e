/-
  Layer 5: WriteRequest.
-/
import Derived.Test.YtemlnmelicnneaaDoorHHosted
import Derived.Test.YtemlnmelicnneaaDoorHResp
import Derived.Test.YtemlnmelicnneaaDoorGByt
namespace Go.Proofs.YtemlnmelicnneaaDoor
open Go.RowKit Syn Fr Hd Ck

namespace Hd
/-- The error of a request that is written. -/
def wqE (m t : List UInt8) (l : List (List UInt8 × List UInt8)) : Int :=
  if largeB (m.length + t.length + 10) l = true then 5 else if mthB m = false then 26 else if tgtB m t = false then 27 else if okCs l = false then 25 else if hsX l = none then 29 else 0
def wqS (m t : List UInt8) : List UInt8 := m ++ [32] ++ t ++ [32] ++ [72, 84, 84, 80, 47, 49, 46, 49]
/-- Its canonical fields. -/
def wqL (l : List (List UInt8 × List UInt8)) : List (List UInt8 × List UInt8) := (can l).map (rep hostN ((hsX l).getD []))
/-- Its text. -/
def wqB (m t : List UInt8) (l : List (List UInt8 × List UInt8)) : List UInt8 := if wqE m t l = 0 then headB (wqS m t) (wqL l) else []
def WqR (w : World) (m t : List UInt8) (l : List (List UInt8 × List UInt8)) (e : Ending) (w' : World) : Prop :=
  ∃ o, e = .returned (.tuple #[o, errV (wqE m t l)]) ∧ OwnM w' w.heap.size o (wqB m t l) ∧ Below w.heap.size w w'
theorem WqR.bad {w w' : World} {m t : List UInt8} {l : List (List UInt8 × List UInt8)} {n : Int} (h : wqE m t l = n) (h0 : n ≠ 0) (hb : Below w.heap.size w w') : WqR w m t l (.returned (.tuple #[.slice none 0 0, .iface 59 (.int .i64 n)])) w' :=
  ⟨.slice none 0 0, by rw [h, herr_ne h0], by unfold wqB; rw [h, if_neg h0]; exact .inl ⟨rfl, rfl⟩, hb⟩
theorem WqR.good {w w' : World} {m t : List UInt8} {l : List (List UInt8 × List UInt8)} {o : Value} (h : wqE m t l = 0) (ho : OwnM w' w.heap.size o (headB (wqS m t) (wqL l))) (hb : Below w.heap.size w w') : WqR w m t l (.returned (.tuple #[o, .nilIface])) w' :=
  ⟨o, by rw [h]; rfl, by unfold wqB; rw [if_pos h]; exact ho, hb⟩
theorem allV_can : ∀ {l : List (List UInt8 × List UInt8)} (nm : List UInt8), okCs l = true → allV (can l) nm = allV l nm
  | [], _, _ => rfl
  | p :: r, nm, h => by
    unfold okCs at h
    rw [List.all_cons, Bool.and_eq_true] at h
    have h1 := ((okC_iff p.1 p.2).1 h.1).1
    have hv : nmV p.1 = Syn.lower p.1 := by unfold nmV; rw [if_pos h1]
    have := allV_can (l := r) nm h.2
    rw [show can (p :: r) = (nmV p.1, p.2) :: can r from rfl, allV_cons, allV_cons, this]
    show (if Syn.lower (nmV p.1) = _ then _ else _) = _
    rw [hv, lower_lower]
theorem hsX_can {l : List (List UInt8 × List UInt8)} (h : okCs l = true) : hsX (can l) = hsX l := by
  unfold hsX; rw [allV_can hostN h]
theorem rep_size {l : List (List UInt8 × List UInt8)} {M : Nat} {h : List UInt8} (hh : h.length ≤ M) (hM : 4 ≤ M) (hs : ∀ p ∈ l, p.1.length ≤ M ∧ p.2.length ≤ M) : ∀ p ∈ l.map (rep hostN h), p.1.length ≤ M ∧ p.2.length ≤ M := by
  intro p hp
  obtain ⟨q, hq, rfl⟩ := List.mem_map.1 hp
  unfold rep
  split
  · exact ⟨hM, hh⟩
  · exact hs q hq
theorem hsX_size {l : List (List UInt8 × List UInt8)} {M : Nat} {h : List UInt8} (hx : hsX l = some h) (hs : ∀ p ∈ l, p.1.length ≤ M ∧ p.2.length ≤ M) : h.length ≤ M := by
  unfold hsX at hx
  split at hx
  · next x he =>
    split at hx
    · cases hx
      obtain ⟨p, hp, rfl⟩ := allV_mem (show x ∈ allV l hostN by rw [he]; simp)
      rw [lower_length]
      exact (hs p hp).2
    · cases hx
  · cases hx
end Hd
set_option maxRecDepth 100000 in
set_option maxHeartbeats 16000000 in
theorem wreq_any (m t : List UInt8) (l : List (List UInt8 × List UInt8)) (v : Value) (w : World) (hmt : m.length + t.length ≤ 50000) (hR : Rd w 2 v l.length (prs l)) (hs : ∀ p ∈ l, p.1.length ≤ 1000000 ∧ p.2.length ≤ 1000000) (hm : l.length ≤ 1000) :
    Calls Tryd.prog 17 #[.agg #[.string (str m), .string (str t), v]] w (WqR w m t l) := by
  obtain ⟨A, cap, rfl, hcap, -, -⟩ := id hR
  have hK := Blk.new w 46 #[.string (str m), .string (str t), .slice A l.length cap]
  have hb0 := (Below.refl w.heap.size w).alloc (Nat.le_refl _) (.cells #[.string (str m), .string (str t), .slice A l.length cap] 46)
  have hLa := fun w' (hb : Below w.heap.size w w') => hlarge_any (m.length + t.length + 10) l (.slice A l.length cap) w' (by omega) (hR.below hb) hs hm
  have hCa := fun w' (hb : Below w.heap.size w w') => canonical_any l (.slice A l.length cap) w' (hR.below hb) hs hm
  have hMe := fun w' => method_any (str m) w' (by rw [str_size]; omega)
  have hTa := fun w' => target_any (str m) (str t) w' (by rw [str_size]; omega)
  rw [bs_str] at hMe
  rw [bs_str, bs_str] at hTa
  have hE : wqE m t l = if largeB (m.length + t.length + 10) l = true then 5 else if mthB m = false then 26 else if tgtB m t = false then 27 else if okCs l = false then 25 else if hsX l = none then 29 else 0 := rfl
  have e0 : str (wqS m t) = (((str m ++ ⟨#[32]⟩) ++ str t) ++ ⟨#[32]⟩) ++ ⟨#[72, 84, 84, 80, 47, 49, 46, 49]⟩ := by
    unfold wqS; rw [← str_append, ← str_append, ← str_append, ← str_append]; rfl
  have hsl : (wqS m t).length = m.length + t.length + 10 := by unfold wqS; simp only [List.length_append, List.length_cons, List.length_nil]; omega
  have z1 : (str m).size = m.length := str_size _
  have z2 : (str t).size = t.length := str_size _
  have q1 : (str m ++ (⟨#[32]⟩ : ByteArray)).size = m.length + 1 := by rw [ByteArray.size_append, z1]; rfl
  have q2 : (str m ++ (⟨#[32]⟩ : ByteArray) ++ str t).size = m.length + 1 + t.length := by rw [ByteArray.size_append, q1, z2]
  have q3 : (str m ++ (⟨#[32]⟩ : ByteArray) ++ str t ++ ⟨#[32]⟩).size = m.length + 1 + t.length + 1 := by rw [ByteArray.size_append, q2]; rfl
  have q4 : (str m ++ (⟨#[32]⟩ : ByteArray) ++ str t ++ ⟨#[32]⟩ ++ ⟨#[72, 84, 84, 80, 47, 49, 46, 49]⟩).size = m.length + t.length + 10 := by rw [ByteArray.size_append, q3]; show _ + 8 = _; omega
  obtain ⟨big, hbig⟩ : ∃ b, largeB (m.length + t.length + 10) l = b := ⟨_, rfl⟩
  rw [hbig] at hE
  simp only [hbig] at hLa
  rw [show ((m.length + t.length + 10 : Nat) : Int) = (m.length : Int) + (t.length : Int) + 10 by omega] at hLa
  replace hbig := Lib.hid hbig
  replace hR := Lib.hid hR
  replace hLa := Lib.hid hLa
  replace hCa := Lib.hid hCa
  replace hMe := Lib.hid hMe
  replace hTa := Lib.hid hTa
  replace hK := Lib.hid hK
  have hc0 := hK.out.cell 0
  have hc1 := hK.out.cell 1
  have hc2 := hK.out.cell 2
  replace hb0 := Lib.hid hb0
  have hHo := Lib.hid (fun (w' : World) v (h : Rd w' 2 v (can l).length (prs (can l))) => hosted_any (can l) v w' (can_size hs) (by unfold can; rw [List.length_map]; exact hm) h)
  have hWt := Lib.hid (fun (h : List UInt8) (hx : hsX l = some h) (w' : World) v (hr : Rd w' 2 v ((can l).map (rep hostN h)).length (prs ((can l).map (rep hostN h)))) => written_any (wqS m t) ((can l).map (rep hostN h)) v w' (by omega) hr (rep_size (hsX_size hx hs) (by omega) (can_size hs)) (by unfold can; rw [List.length_map, List.length_map]; exact hm))
  rw [e0] at hWt
  replace hsl := Lib.hid hsl
  replace e0 := Lib.hid e0
  cases big with
  | true =>
    replace hE := Lib.hid (hE.trans (if_pos rfl))
    generalize str m = sm at *
    generalize str t = sd at *
    go_enter Tryd.func17, Tryd.ntmps17
    go_wp2_with fail
    refine (hLa.out _ hb0.out).mono ?_
    rintro e w2 ⟨rfl, hb2⟩
    have hB2 := Lib.hid (Below.next hb0.out hb0.out.size hb2)
    have hK2 := hK.out.below hb2
    have c20 := hK2.cell 0
    have c21 := hK2.cell 1
    have c22 := hK2.cell 2
    replace hK2 := Lib.hid hK2
    clear hb2
    go_wp2
    go_ret2
    exact WqR.bad hE.out (by decide) hB2.out
  | false =>
   rw [if_neg (by simp)] at hE
   cases k1 : mthB m with
   | false =>
    replace hE := Lib.hid (hE.trans (if_pos k1))
    rw [k1] at hMe
    replace k1 := Lib.hid k1
    generalize str m = sm at *
    generalize str t = sd at *
    go_enter Tryd.func17, Tryd.ntmps17
    go_wp2_with fail
    refine (hLa.out _ hb0.out).mono ?_
    rintro e w2 ⟨rfl, hb2⟩
    have hB2 := Lib.hid (Below.next hb0.out hb0.out.size hb2)
    have hK2 := hK.out.below hb2
    have c20 := hK2.cell 0
    have c21 := hK2.cell 1
    have c22 := hK2.cell 2
    replace hK2 := Lib.hid hK2
    clear hb2
    go_wp2_with fail
    refine (hMe.out _).mono ?_
    rintro e w3 ⟨rfl, rfl⟩
    go_wp2
    go_ret2
    exact WqR.bad hE.out (by decide) hB2.out
   | true =>
    rw [if_neg (by rw [k1]; decide)] at hE
    rw [k1] at hMe
    replace k1 := Lib.hid k1
    cases k2 : tgtB m t with
    | false =>
     replace hE := Lib.hid (hE.trans (if_pos k2))
     rw [k2] at hTa
     replace k2 := Lib.hid k2
     generalize str m = sm at *
     generalize str t = sd at *
     go_enter Tryd.func17, Tryd.ntmps17
     go_wp2_with fail
     refine (hLa.out _ hb0.out).mono ?_
     rintro e w2 ⟨rfl, hb2⟩
     have hB2 := Lib.hid (Below.next hb0.out hb0.out.size hb2)
     have hK2 := hK.out.below hb2
     have c20 := hK2.cell 0
     have c21 := hK2.cell 1
     have c22 := hK2.cell 2
     replace hK2 := Lib.hid hK2
     clear hb2
     go_wp2_with fail
     refine (hMe.out _).mono ?_
     rintro e w3 ⟨rfl, rfl⟩
     go_wp2_with fail
     refine (hTa.out _).mono ?_
     rintro e w3 ⟨rfl, rfl⟩
     go_wp2
     go_ret2
     exact WqR.bad hE.out (by decide) hB2.out
    | true =>
     rw [if_neg (by rw [k2]; decide)] at hE
     rw [k2] at hTa
     replace k2 := Lib.hid k2
     generalize str m = sm at *
     generalize str t = sd at *
     cases k3 : okCs l with
     | false =>
      replace hE := Lib.hid (hE.trans (if_pos k3))
      replace k3 := Lib.hid k3
      go_enter Tryd.func17, Tryd.ntmps17
      go_wp2_with fail
      refine (hLa.out _ hb0.out).mono ?_
      rintro e w2 ⟨rfl, hb2⟩
      have hB2 := Lib.hid (Below.next hb0.out hb0.out.size hb2)
      have hK2 := hK.out.below hb2
      have c20 := hK2.cell 0
      have c21 := hK2.cell 1
      have c22 := hK2.cell 2
      replace hK2 := Lib.hid hK2
      clear hb2
      go_wp2_with fail
      refine (hMe.out _).mono ?_
      rintro e w3 ⟨rfl, rfl⟩
      go_wp2_with fail
      refine (hTa.out _).mono ?_
      rintro e w3 ⟨rfl, rfl⟩
      go_wp2_with fail
      refine (hCa.out _ hB2.out).mono ?_
      rintro e w3 h3
      obtain ⟨o3, rfl, hb3⟩ := CanR.no h3 (by rw [k3.out]; decide)
      have hB3 := Lib.hid (Below.next hB2.out hB2.out.size hb3)
      clear hb3 h3 c20 c21 c22
      go_wp2
      go_ret2
      exact WqR.bad hE.out (by decide) hB3.out
     | true =>
      rw [if_neg (by rw [k3]; decide)] at hE
      have hxc := hsX_can k3
      cases k4 : hsX l with
      | none =>
       replace hE := Lib.hid (hE.trans (if_pos k4))
       rw [k4] at hxc
       replace hxc := Lib.hid hxc
       replace k3 := Lib.hid k3
       replace k4 := Lib.hid k4
       go_enter Tryd.func17, Tryd.ntmps17
       go_wp2_with fail
       refine (hLa.out _ hb0.out).mono ?_
       rintro e w2 ⟨rfl, hb2⟩
       have hB2 := Lib.hid (Below.next hb0.out hb0.out.size hb2)
       have hK2 := hK.out.below hb2
       have c20 := hK2.cell 0
       have c21 := hK2.cell 1
       have c22 := hK2.cell 2
       replace hK2 := Lib.hid hK2
       clear hb2
       go_wp2_with fail
       refine (hMe.out _).mono ?_
       rintro e w3 ⟨rfl, rfl⟩
       go_wp2_with fail
       refine (hTa.out _).mono ?_
       rintro e w3 ⟨rfl, rfl⟩
       go_wp2_with fail
       refine (hCa.out _ hB2.out).mono ?_
       rintro e w3 h3
       obtain ⟨o3, rfl, ho3, hb3⟩ := CanR.yes h3 k3.out
       have hB3 := Lib.hid (Below.next hB2.out hB2.out.size hb3)
       have hr3 := Lib.hid (Rd.own ho3)
       clear hb3 h3 ho3 c20 c21 c22
       go_wp2_with fail
       refine (hHo.out _ _ hr3.out).mono ?_
       rintro e w4 ⟨h4, hb4⟩
       have hB4 := Lib.hid (Below.next hB3.out hB3.out.size hb4)
       obtain rfl : e = .returned (.tuple #[.slice none 0 0, .iface 59 (.int .i64 29)]) := by
         rcases h4 with ⟨-, h4⟩ | ⟨h, o, h4, -⟩
         · exact h4
         · rw [hxc.out] at h4; cases h4
       clear hb4 h4
       go_wp2
       go_ret2
       exact WqR.bad hE.out (by decide) hB4.out
      | some h =>
       rw [if_neg (by rw [k4]; exact fun h => by cases h)] at hE
       rw [k4] at hxc
       have hWt2 := Lib.hid (hWt.out h k4)
       have hwl : wqL l = (can l).map (rep hostN h) := by unfold wqL; rw [k4]; rfl
       replace hwl := Lib.hid hwl
       replace hE := Lib.hid hE
       replace hxc := Lib.hid hxc
       replace k3 := Lib.hid k3
       replace k4 := Lib.hid k4
       clear hWt
       go_enter Tryd.func17, Tryd.ntmps17
       go_wp2_with fail
       refine (hLa.out _ hb0.out).mono ?_
       rintro e w2 ⟨rfl, hb2⟩
       have hB2 := Lib.hid (Below.next hb0.out hb0.out.size hb2)
       have hK2 := hK.out.below hb2
       have c20 := hK2.cell 0
       have c21 := hK2.cell 1
       have c22 := hK2.cell 2
       replace hK2 := Lib.hid hK2
       clear hb2
       go_wp2_with fail
       refine (hMe.out _).mono ?_
       rintro e w3 ⟨rfl, rfl⟩
       go_wp2_with fail
       refine (hTa.out _).mono ?_
       rintro e w3 ⟨rfl, rfl⟩
       go_wp2_with fail
       refine (hCa.out _ hB2.out).mono ?_
       rintro e w3 h3
       obtain ⟨o3, rfl, ho3, hb3⟩ := CanR.yes h3 k3.out
       have hB3 := Lib.hid (Below.next hB2.out hB2.out.size hb3)
       have hr3 := Lib.hid (Rd.own ho3)
       clear hb3 h3 ho3 c20 c21 c22
       go_wp2_with fail
       refine (hHo.out _ _ hr3.out).mono ?_
       rintro e w4 ⟨h4, hb4⟩
       have hB4 := Lib.hid (Below.next hB3.out hB3.out.size hb4)
       obtain ⟨o4, rfl, ho4⟩ : ∃ o, e = .returned (.tuple #[o, .nilIface]) ∧ Own w4 w3.heap.size 86 2 o ((can l).map (rep hostN h)).length (prs ((can l).map (rep hostN h))) := by
         rcases h4 with ⟨h4, -⟩ | ⟨h', o, h4, h5, h6⟩
         · rw [hxc.out] at h4; cases h4
         · rw [hxc.out] at h4; cases h4; exact ⟨o, h5, h6⟩
       have hr4 := Lib.hid (Rd.own ho4)
       clear hb4 h4 ho4
       go_wp2_with fail
       refine (hWt2.out _ _ hr4.out).mono ?_
       rintro e w5 ⟨o5, rfl, ho5, hb5⟩
       have hB5 := Lib.hid (Below.next hB4.out hB4.out.size hb5)
       have ho6 := Lib.hid (ho5.base hB4.out.size)
       clear hb5 ho5
       go_wp2
       go_ret2
       exact WqR.good hE.out (by rw [hwl.out]; exact ho6.out) hB5.out
end Go.Proofs.YtemlnmelicnneaaDoor
