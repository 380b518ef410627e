/-
  Layer 5: the one host of fields, the code's and the document's.
-/
import Derived.Test.YtemlnmelicnneaaDoorHSet
import Derived.Test.YtemlnmelicnneaaDoorHRHost
import Derived.Deep.DeepCutAuto
namespace Go.Proofs.YtemlnmelicnneaaDoor
open Go.RowKit Syn Fr Hd Ck

namespace Hd
/-- What hosted leaves. -/
def HosR (w : World) (l : List (List UInt8 × List UInt8)) (e : Ending) (w' : World) : Prop :=
  ((hsX l = none ∧ e = .returned (.tuple #[.slice none 0 0, .iface 59 (.int .i64 29)])) ∨
    ∃ h o, hsX l = some h ∧ e = .returned (.tuple #[o, .nilIface]) ∧ Own w' w.heap.size 86 2 o (l.map (rep hostN h)).length (prs (l.map (rep hostN h)))) ∧ Below w.heap.size w w'
theorem HosR.no {w w' : World} {l : List (List UInt8 × List UInt8)} (h : hsX l = none) (hb : Below w.heap.size w w') : HosR w l (.returned (.tuple #[.slice none 0 0, .iface 59 (.int .i64 29)])) w' := ⟨.inl ⟨h, rfl⟩, hb⟩
theorem HosR.yes {w w' : World} {l : List (List UInt8 × List UInt8)} {h : List UInt8} {o : Value} (hx : hsX l = some h) (ho : Own w' w.heap.size 86 2 o (l.map (rep hostN h)).length (prs (l.map (rep hostN h)))) (hb : Below w.heap.size w w') : HosR w l (.returned (.tuple #[o, .nilIface])) w' :=
  ⟨.inr ⟨h, o, hx, rfl, ho⟩, hb⟩
theorem hsX_len {l : List (List UInt8 × List UInt8)} (h : ¬ (allV l hostN).length = 1) : hsX l = none := by
  unfold hsX
  split
  · next x he => rw [he] at h; simp at h
  · rfl
theorem hsX_bad {l : List (List UInt8 × List UInt8)} {x : List UInt8} (h : allV l hostN = [x]) (h2 : hostB x = false) : hsX l = none := by
  unfold hsX; rw [h]; simp [h2]
theorem hsX_good {l : List (List UInt8 × List UInt8)} {x : List UInt8} (h : allV l hostN = [x]) (h2 : hostB x = true) : hsX l = some (Syn.lower x) := by
  unfold hsX; rw [h]; simp [h2]
/-- The document's field, its host made canonical. -/
def repR (p : List UInt8 × List UInt8) : List UInt8 × List UInt8 := if Syn.lower p.1 = hostN then (p.1, Syn.lower p.2) else p
theorem repR_take {l : List (List UInt8 × List UInt8)} {k : Nat} (h : k < l.length) : (l.take (k + 1)).map repR = (l.take k).map repR ++ [repR l[k]] := by
  rw [List.take_succ_eq_append_getElem h, List.map_append]; rfl
theorem hsX_some {l : List (List UInt8 × List UInt8)} (h : ∀ x ∈ allV l hostN, hostB x = true) : (hsX l).isSome = decide ((allV l hostN).length = 1) := by
  unfold hsX
  split
  · next x he => rw [he] at h ⊢; simp [h x (by simp)]
  · next hne =>
    rw [Option.isSome_none, eq_comm, decide_eq_false_iff_not]
    intro hl
    match hh : allV l hostN, hl with
    | [x], _ => exact hne x hh
theorem hsX_none {l : List (List UInt8 × List UInt8)} {x : List UInt8} (h : x ∈ allV l hostN) (h2 : hostB x = false) : hsX l = none := by
  unfold hsX
  split
  · next y he => rw [he, List.mem_singleton] at h; rw [← h, if_neg (by rw [h2]; decide)]
  · rfl
theorem allV_at {l : List (List UInt8 × List UInt8)} {k : Nat} (h : k < l.length) (h2 : Syn.lower l[k].1 = hostN) : l[k].2 ∈ allV l hostN := by
  unfold allV
  rw [List.mem_map]
  exact ⟨l[k], List.mem_filter.2 ⟨List.getElem_mem h, by rw [low_host]; simpa using h2⟩, rfl⟩
end Hd
set_option maxRecDepth 100000 in
set_option maxHeartbeats 4000000 in
theorem hosted_any (l : List (List UInt8 × List UInt8)) (v : Value) (w : World) (hs : ∀ p ∈ l, p.1.length ≤ 1000000 ∧ p.2.length ≤ 1000000) (hm : l.length ≤ 1000) (hR : Rd w 2 v l.length (prs l)) :
    Calls Tryd.prog 39 #[v] w (HosR w l) := by
  obtain ⟨A, cap, rfl, hcap, -, -⟩ := id hR
  have hAl := Lib.hid (fun w h => all_any l hostN (.slice A l.length cap) w hs hm (by decide) h)
  have hSt := Lib.hid (fun y w h => fset_any l hostN y (.slice A l.length cap) w hs hm (by decide) h)
  have hln : (allV l hostN).length ≤ 1000 := Nat.le_trans (allV_length l hostN) hm
  have hmem : ∀ x ∈ allV l hostN, x.length ≤ 1000000 := fun x hx => by obtain ⟨p, hp, rfl⟩ := allV_mem hx; exact (hs p hp).2
  have hstr : str hostN = ⟨#[104, 111, 115, 116]⟩ := rfl
  rw [hstr] at hAl hSt
  replace hR := Lib.hid hR
  replace hs := Lib.hid hs
  clear hstr
  by_cases h1 : (allV l hostN).length = 1
  · obtain ⟨x, hx⟩ : ∃ x, allV l hostN = [x] := by
      match hh : allV l hostN, h1 with
      | [x], _ => exact ⟨x, rfl⟩
    have hxl := hmem x (by rw [hx]; simp)
    have hH := Lib.hid (fun w => host_any (str x) w (by rw [str_size]; exact hxl))
    rw [hx] at hAl
    have hsv := setV_one (nm := hostN) (v := Syn.lower x) low_host h1
    have hSt2 := Lib.hid (hSt.out (Syn.lower x))
    rw [low_host, hsv] at hSt2
    clear hSt hsv hmem
    cases hb : hostB x with
    | true =>
      have hgood := Lib.hid (hsX_good hx hb)
      have e1 : hsV (bs (str x)) = Syn.lower x := by rw [bs_str]; unfold hsV; rw [if_pos hb]
      have e2 : hsE (bs (str x)) = 0 := by rw [bs_str]; unfold hsE; rw [if_pos hb]
      rw [e1, e2, errV_zero] at hH
      replace hb := Lib.hid hb
      replace hx := Lib.hid hx
      replace h1 := Lib.hid h1
      clear e1 e2
      go_enter Tryd.func39, Tryd.ntmps39
      go_wp2_with fail
      refine (hAl.out _ hR.out).mono ?_
      rintro e w1 ⟨o, rfl, ho, hb1⟩
      obtain ⟨A1, c1, rfl, -, -, r1⟩ := Rd.own ho
      obtain ⟨b1, o1, rfl, -, x1⟩ := r1 (by simp)
      have d1 : w1.cell? ⟨b1, o1 + 0, none⟩ = some (.string (str x)) := x1 0 _ rfl
      rw [Nat.add_zero] at d1
      have hR1 := Lib.hid (hR.out.below hb1)
      replace hb1 := Lib.hid hb1
      clear x1 r1 ho
      go_wp2_with fail
      refine (hH.out _).mono ?_
      rintro e w2 ⟨rfl, hb2⟩
      have hR2 := Lib.hid (hR1.out.below hb2)
      have hB2 := Lib.hid (Below.next hb1.out hb1.out.size hb2)
      clear hb2
      go_wp2_with fail
      refine (hSt2.out _ hR2.out).mono ?_
      rintro e w3 ⟨o3, rfl, ho3, hb3⟩
      have hB3 := Lib.hid (Below.next hB2.out hB2.out.size hb3)
      replace ho3 := Lib.hid (own_mono ho3 hB2.out.size)
      clear hb3
      go_wp2
      go_ret2
      exact HosR.yes hgood.out ho3.out hB3.out
    | false =>
      have hbad := Lib.hid (hsX_bad hx hb)
      have e2 : hsE (bs (str x)) = 8 := by rw [bs_str]; unfold hsE; rw [if_neg (by rw [hb]; decide)]
      rw [e2, herr_ne (by decide)] at hH
      replace hb := Lib.hid hb
      replace hx := Lib.hid hx
      replace h1 := Lib.hid h1
      clear e2 hSt2
      generalize str (hsV (bs (str x))) = hv at *
      go_enter Tryd.func39, Tryd.ntmps39
      go_wp2_with fail
      refine (hAl.out _ hR.out).mono ?_
      rintro e w1 ⟨o, rfl, ho, hb1⟩
      obtain ⟨A1, c1, rfl, -, -, r1⟩ := Rd.own ho
      obtain ⟨b1, o1, rfl, -, x1⟩ := r1 (by simp)
      have d1 : w1.cell? ⟨b1, o1 + 0, none⟩ = some (.string (str x)) := x1 0 _ rfl
      rw [Nat.add_zero] at d1
      replace hb1 := Lib.hid hb1
      clear x1 r1 ho
      go_wp2_with fail
      refine (hH.out _).mono ?_
      rintro e w2 ⟨rfl, hb2⟩
      have hB2 := Lib.hid (Below.next hb1.out hb1.out.size hb2)
      clear hb2
      go_wp2
      go_ret2
      exact HosR.no hbad.out hB2.out
  · have hbad := Lib.hid (hsX_len h1)
    clear hSt hmem
    generalize allV l hostN = V at *
    have q1 : ((V.length : Int) != 1) = true := by rw [bne, show ((V.length : Int) == 1) = false from beq_cast_false h1]; rfl
    replace h1 := Lib.hid h1
    go_enter Tryd.func39, Tryd.ntmps39
    go_wp2_with fail
    refine (hAl.out _ hR.out).mono ?_
    rintro e w1 ⟨o, rfl, ho, hb1⟩
    obtain ⟨A1, c1, rfl, -, -, -⟩ := Rd.own ho
    replace hb1 := Lib.hid hb1
    clear ho
    go_wp2
    go_ret2
    exact HosR.no hbad.out hb1.out
set_option maxRecDepth 100000 in
set_option maxHeartbeats 8000000 in
theorem rhosted_any (l : List (List UInt8 × List UInt8)) (v : Value) (w : World) (hs : ∀ p ∈ l, p.1.length ≤ 1000000 ∧ p.2.length ≤ 1000000) (hm : l.length ≤ 1000) (hR : Rd w 2 v l.length (prs l)) :
    Calls Tryd.prog 40 #[v] w fun e w' => ∃ o, e = .returned (.tuple #[o, .bool (hsX l).isSome]) ∧ ((hsX l).isSome = true → Own w' w.heap.size 62 2 o (l.map repR).length (prs (l.map repR))) ∧ Below w.heap.size w w' := by
  obtain ⟨A, cap, rfl, hcap, -, -⟩ := id hR
  replace hR := Lib.hid hR
  replace hs := Lib.hid hs
  have hbad := Lib.hid (fun (k : Nat) (h : k < l.length) (h2 : Syn.lower l[k].1 = hostN) (h3 : hostB l[k].2 = false) => hsX_none (allV_at h h2) h3)
  have hgood := Lib.hid (fun h => hsX_some (l := l) h)
  have hfew := Lib.hid (allV_length l hostN)
  go_enter Tryd.func40, Tryd.ntmps40
  go_wp2
  go_loopw [4, 5, 6] (fun o n i wr => ∃ k m : Nat, i = .int .i64 (k : Int) ∧ k ≤ l.length ∧ n = .int .i64 (m : Int) ∧ m ≤ k ∧ Hid (m = (allV (l.take k) hostN).length) ∧ Hid (∀ x ∈ allV (l.take k) hostN, hostB x = true) ∧ Hid (Own wr w.heap.size 62 2 o k (prs ((l.take k).map repR))) ∧ Hid (Below w.heap.size w wr)) (fun _ _ i _ => l.length - (intOf i).toNat)
  case atStart => exact ⟨0, 0, rfl, by omega, rfl, by omega, Lib.hid rfl, Lib.hid (by simp [allV]), Lib.hid (own_nil _ _ _ _), Lib.hid (Below.refl _ _)⟩
  case round =>
    obtain ⟨k, m, rfl, hk, rfl, hmk, hmc, hall, ho, hB⟩ := hrel
    have hBw := hB.out.size
    obtain ⟨Ao, co, rfl, -⟩ := Rd.own ho.out
    by_cases hlt : k < l.length
    · obtain ⟨A', cap', e', -, -, r'⟩ := hR.out.below hB.out
      cases e'
      obtain ⟨b1, o1, rfl, _, x1⟩ := r' (by omega)
      have d1 : wr.cell? ⟨b1, o1 + k * 2, none⟩ = some (.string (str l[k].1)) := x1 _ _ (prs_at0 hlt)
      have d2 : wr.cell? ⟨b1, o1 + k * 2 + 1, none⟩ = some (.string (str l[k].2)) := x1 _ _ (prs_at1 hlt)
      have hsh := hs.out l[k] (List.getElem_mem hlt)
      have htk := repR_take hlt
      have hat := allV_take hlt hostN
      have hbd := Lib.hid (hbad.out k hlt)
      clear x1 r'
      generalize l[k] = p at *
      obtain ⟨n, vv⟩ := p
      simp only at d1 d2 hsh htk hat hbd
      rw [low_host] at hat
      have hOf := Lib.hid (fun w => of_any n vv hostN w hsh.1 (by decide))
      rw [show str hostN = ⟨#[104, 111, 115, 116]⟩ from rfl, low_host] at hOf
      have hH := Lib.hid (fun w => rhost_any (str vv) w (by rw [str_size]; exact hsh.2))
      have hnew := Lib.hid (Blk.new wr 62 #[.string (str n), .string (str vv)])
      have hA1 := Lib.hid (hB.out.alloc hBw (.cells #[.string (str n), .string (str vv)] 62))
      have hfar := Lib.hid ((Below.refl wr.heap.size wr).alloc (Nat.le_refl _) (.cells #[.string (str n), .string (str vv)] 62))
      replace hsh := Lib.hid hsh
      rw [bs_str] at hH
      by_cases he : Syn.lower n = hostN
      · rw [if_pos he] at hat
        rw [show repR (n, vv) = (n, Syn.lower vv) from if_pos he] at htk
        rw [decide_eq_true he] at hOf
        cases hb : hostB vv with
        | false =>
          have hno := Lib.hid (hbd.out he hb)
          have hv1 : hsV vv = [] := by unfold hsV; rw [if_neg (by rw [hb]; decide)]
          rw [hb, hv1] at hH
          replace hb := Lib.hid hb
          replace he := Lib.hid he
          clear hat htk hv1
          go_wp2_with fail
          refine (hOf.out _).mono ?_
          rintro e w2 ⟨rfl, hb2⟩
          have hK2 := hnew.out.below hb2
          have c1 : w2.cell? ⟨wr.heap.size, 1, none⟩ = some (.string (str vv)) := hK2.cell 1
          have hB2 := Lib.hid (Below.next hA1.out hA1.out.size hb2)
          clear hb2 hK2
          go_wp2_with fail
          refine (hH.out _).mono ?_
          rintro e w3 ⟨rfl, hb3⟩
          have hB3 := Lib.hid (Below.next hB2.out hB2.out.size hb3)
          clear hb3
          go_wp2
          go_ret2
          exact ⟨_, by rw [hno.out]; rfl, fun h => absurd (hno.out ▸ h) (by decide), hB3.out⟩
        | true =>
          have hv1 : hsV vv = Syn.lower vv := by unfold hsV; rw [if_pos hb]
          rw [hb, hv1] at hH
          have hall2 : Hid (∀ x ∈ allV (l.take (k + 1)) hostN, hostB x = true) := Lib.hid (fun x hx => by
            rw [hat, List.mem_append, List.mem_singleton] at hx
            rcases hx with hx | rfl
            · exact hall.out x hx
            · exact hb)
          have hm2 : Hid (m + 1 = (allV (l.take (k + 1)) hostN).length) := Lib.hid (by rw [hat, List.length_append, ← hmc.out]; rfl)
          have hpr := Lib.hid (prs_snoc ((l.take k).map repR) (n, Syn.lower vv))
          replace hb := Lib.hid hb
          replace he := Lib.hid he
          replace htk := Lib.hid htk
          clear hat hv1 hmc
          go_wp2_with fail
          refine (hOf.out _).mono ?_
          rintro e w2 ⟨rfl, hb2⟩
          have hK2 := hnew.out.below hb2
          have c1 : w2.cell? ⟨wr.heap.size, 1, none⟩ = some (.string (str vv)) := hK2.cell 1
          have hB2 := Lib.hid (Below.next hA1.out hA1.out.size hb2)
          have hf2 := Lib.hid (Below.next hfar.out hfar.out.size hb2)
          replace hK2 := Lib.hid hK2
          clear hb2
          go_wp2_with fail
          refine (hH.out _).mono ?_
          rintro e w3 ⟨rfl, hb3⟩
          have hB3 := Lib.hid (Below.next hB2.out hB2.out.size hb3)
          have hf3 := Lib.hid (Below.next hf2.out hf2.out.size hb3)
          have hK3 := hK2.out.below hb3
          have c3 : w3.cell? ⟨wr.heap.size, 1, none⟩ = some (.string (str vv)) := hK3.cell 1
          have g3 := hK3.frozen 1
          clear hb3 c1
          go_upto_region 13 with (fail)
          have hK4 := hK3.set_ 1 (.string (str (Syn.lower vv)))
          have hB4 := hB3.out.setCell (p := ⟨wr.heap.size, 1, none⟩) hBw (.string (str (Syn.lower vv)))
          have hf4 := hf3.out.setCell (p := ⟨wr.heap.size, 1, none⟩) (Nat.le_refl _) (.string (str (Syn.lower vv)))
          generalize w3.setCell ⟨wr.heap.size, 1, none⟩ (.string (str (Syn.lower vv))) = w4 at *
          have f0 : w4.cell? ⟨wr.heap.size, 0, none⟩ = some (.string (str n)) := hK4.cell 0
          have f1 : w4.cell? ⟨wr.heap.size, 1, none⟩ = some (.string (str (Syn.lower vv))) := hK4.cell 1
          have ho4 := Lib.hid (own_below ho.out hf4)
          have hBw4 := hB4.size
          replace hB4 := Lib.hid hB4
          replace hf4 := Lib.hid hf4
          replace hK4 := Lib.hid hK4
          clear c3 g3 hK3
          go_wp2_with (at_builtin; go_loud (refine push_pair 22 62 Tryd.underlying22 infoR2b _ _ rfl rfl rfl ho4.out rfl rfl rfl (by omega) hBw4 ?_); intro v7 w7 ho7 hb7; have hB7 := Lib.hid (hB4.out.trans hb7); replace ho7 := Lib.hid ho7; clear hb7)
          go_roundw
          case rel => exact ⟨k + 1, m + 1, by go_num, by omega, by go_num, by omega, hm2, hall2, Lib.hid (by rw [htk.out, hpr.out]; exact ho7.out), hB7⟩
          case measure => simp only [intOf]; omega
      · rw [if_neg he, List.append_nil] at hat
        rw [show repR (n, vv) = (n, vv) from if_neg he] at htk
        rw [decide_eq_false he] at hOf
        have hall2 : Hid (∀ x ∈ allV (l.take (k + 1)) hostN, hostB x = true) := Lib.hid (by rw [hat]; exact hall.out)
        have hm2 : Hid (m = (allV (l.take (k + 1)) hostN).length) := Lib.hid (by rw [hat]; exact hmc.out)
        have hpr := Lib.hid (prs_snoc ((l.take k).map repR) (n, vv))
        replace he := Lib.hid he
        replace htk := Lib.hid htk
        clear hat hmc
        go_wp2_with fail
        refine (hOf.out _).mono ?_
        rintro e w2 ⟨rfl, hb2⟩
        have hK2 := hnew.out.below hb2
        have c0 : w2.cell? ⟨wr.heap.size, 0, none⟩ = some (.string (str n)) := hK2.cell 0
        have c1 : w2.cell? ⟨wr.heap.size, 1, none⟩ = some (.string (str vv)) := hK2.cell 1
        have hB2 := Below.next hA1.out hA1.out.size hb2
        have ho2 := Lib.hid (own_below ho.out (Below.next hfar.out hfar.out.size hb2))
        have hBw2 := hB2.size
        replace hB2 := Lib.hid hB2
        clear hb2 hK2
        go_wp2_with (at_builtin; go_loud (refine push_pair 22 62 Tryd.underlying22 infoR2b _ _ rfl rfl rfl ho2.out rfl rfl rfl (by omega) hBw2 ?_); intro v7 w7 ho7 hb7; have hB7 := Lib.hid (hB2.out.trans hb7); replace ho7 := Lib.hid ho7; clear hb7)
        go_roundw
        case rel => exact ⟨k + 1, m, by go_num, by omega, rfl, by omega, hm2, hall2, Lib.hid (by rw [htk.out, hpr.out]; exact ho7.out), hB7⟩
        case measure => simp only [intOf]; omega
    · obtain rfl : k = l.length := by omega
      rw [List.take_length] at hmc hall ho
      have hg := hgood.out hall.out
      have hlm : (l.map repR).length = l.length := List.length_map ..
      by_cases h1 : m = 1
      · subst h1
        rw [← hmc.out] at hg
        have hg2 := Lib.hid (hg.trans (show decide (1 = 1) = true from rfl))
        replace hlm := Lib.hid hlm
        clear hg
        go_wp2
        go_ret2
        exact ⟨_, by rw [hg2.out]; rfl, fun _ => by rw [hlm.out]; exact ho.out, hB.out⟩
      · rw [← hmc.out, decide_eq_false h1] at hg
        have q1 : ((m : Int) == 1) = false := beq_cast_false h1
        replace h1 := Lib.hid h1
        replace hlm := Lib.hid hlm
        replace hg := Lib.hid hg
        go_wp2
        go_ret2
        exact ⟨_, by rw [hg.out]; rfl, fun _ => by rw [hlm.out]; exact ho.out, hB.out⟩
end Go.Proofs.YtemlnmelicnneaaDoor
