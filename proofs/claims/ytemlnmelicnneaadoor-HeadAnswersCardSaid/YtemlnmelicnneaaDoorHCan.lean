/-
  Layer 5: canonical fields.
-/
import Derived.Test.YtemlnmelicnneaaDoorHWr
namespace Go.Proofs.YtemlnmelicnneaaDoor
open Go.RowKit Syn Hd Ck

theorem herr_ne {n : Int} (h : n ≠ 0) : errV n = .iface 59 (.int .i64 n) := by unfold errV; rw [if_neg h]
namespace Hd
/-- What canonical leaves. -/
def CanR (w : World) (l : List (List UInt8 × List UInt8)) (e : Ending) (w' : World) : Prop :=
  ∃ o, e = .returned (.tuple #[o, errV (if okCs l = true then 0 else 25)]) ∧ Own w' w.heap.size 86 2 o (if okCs l = true then can l else []).length (prs (if okCs l = true then can l else [])) ∧ Below w.heap.size w w'
theorem CanR.bad {w w' : World} {l : List (List UInt8 × List UInt8)} (h : okCs l = false) (hb : Below w.heap.size w w') : CanR w l (.returned (.tuple #[.slice none 0 0, .iface 59 (.int .i64 25)])) w' :=
  ⟨.slice none 0 0, by rw [h]; rfl, by rw [h]; exact own_nil _ _ _ _, hb⟩
theorem CanR.good {w w' : World} {l : List (List UInt8 × List UInt8)} {o : Value} (h : okCs l = true) (ho : Own w' w.heap.size 86 2 o (can l).length (prs (can l))) (hb : Below w.heap.size w w') : CanR w l (.returned (.tuple #[o, .nilIface])) w' :=
  ⟨o, by rw [h]; rfl, by rw [h]; exact ho, hb⟩
end Hd
set_option maxRecDepth 100000 in
set_option maxHeartbeats 16000000 in
theorem canonical_any (l : List (List UInt8 × List UInt8)) (v : Value) (w : World) (hR : Rd w 2 v l.length (prs l)) (hs : ∀ p ∈ l, p.1.length ≤ 1000000 ∧ p.2.length ≤ 1000000) (hm : l.length ≤ 1000) :
    Calls Tryd.prog 28 #[v] w (CanR w l) := by
  obtain ⟨A, cap, rfl, hcap, -, -⟩ := id hR
  replace hR := Lib.hid hR
  replace hs := Lib.hid hs
  go_enter Tryd.func28, Tryd.ntmps28
  go_wp2
  go_loopw [4, 12] (fun o i wr => ∃ k : Nat, i = .int .i64 (k : Int) ∧ k ≤ l.length ∧ Hid (okCs (l.take k) = true) ∧ Hid (Own wr w.heap.size 86 2 o k (prs (can (l.take k)))) ∧ Hid (Below w.heap.size w wr)) (fun _ i _ => l.length - (intOf i).toNat)
  case atStart => exact ⟨0, rfl, by omega, Lib.hid rfl, Lib.hid (own_nil _ _ _ _), Lib.hid (Below.refl _ _)⟩
  case round =>
    obtain ⟨k, rfl, hk, hok, ho, hB⟩ := hrel
    have hBs := hB.out.size
    obtain ⟨Ao, co, rfl, -⟩ := Rd.own ho.out
    by_cases hlt : k < l.length
    · obtain ⟨A', cap', e', -, -, r'⟩ := hR.out.below hB.out
      cases e'
      obtain ⟨b1, o1, rfl, hb1, x1⟩ := r' (by omega)
      have d1 : wr.cell? ⟨b1, o1 + k * 2, none⟩ = some (.string (str l[k].1)) := x1 _ _ (prs_at0 hlt)
      have d2 : wr.cell? ⟨b1, o1 + k * 2 + 1, none⟩ = some (.string (str l[k].2)) := x1 _ _ (prs_at1 hlt)
      have hsz := hs.out l[k] (List.getElem_mem hlt)
      have hokT := okCs_take hlt
      have hokN := okCs_no hlt
      have hct := can_take hlt
      rw [hok.out, Bool.true_and] at hokT
      generalize l[k] = p at *
      obtain ⟨nm, vl⟩ := p
      simp only at d1 d2 hsz hct
      clear x1 r'
      have hokI := okC_iff nm vl
      have hN := fname_any (str nm) (wr.alloc (.cells #[.string (str nm), .string (str vl)] 86)) (by rw [str_size]; omega)
      have hV := fun w => fvalue_any (str vl) w (by rw [str_size]; omega)
      rw [bs_str] at hN
      simp only [bs_str] at hV
      have hA1 := hB.out.alloc hBs (.cells #[.string (str nm), .string (str vl)] 86)
      have hoA := own_below ho.out ((Below.refl _ _).alloc (Nat.le_refl _) (.cells #[.string (str nm), .string (str vl)] 86))
      have hF1 := Blk.new wr 86 #[.string (str nm), .string (str vl)]
      replace hA1 := Lib.hid hA1
      replace hoA := Lib.hid hoA
      replace hF1 := Lib.hid hF1
      replace hct := Lib.hid hct
      replace hokT := Lib.hid hokT
      have hbad : ¬ okC (nm, vl) = true → okCs l = false := fun h => hokN (by simpa using h)
      rw [hokI] at hbad
      replace hbad := Lib.hid hbad
      clear hokN
      by_cases k1 : nmE nm = 0
      · rw [k1, errV_zero] at hN
        by_cases k2 : vlE vl = 0
        · have hV3 := hV
          simp only [k2, errV_zero] at hV3
          by_cases k4 : vlV vl = vl
          · have hof : okC (nm, vl) = true := hokI.2 ⟨k1, k2, k4⟩
            simp only [k4] at hV3
            clear hV
            have hV := Lib.hid hV3
            clear hV3
            have hok2 := Lib.hid (hokT.out.trans hof)
            have qs := str_eq (a := vl) (b := vl) rfl
            have hpr := prs_snoc (can (l.take k)) (nmV nm, vl)
            simp only at hpr
            replace hof := Lib.hid hof
            replace k1 := Lib.hid k1
            replace k2 := Lib.hid k2
            replace k4 := Lib.hid k4
            replace hN := Lib.hid hN
            replace hpr := Lib.hid hpr
            clear hbad hokI
            generalize str (nmV nm) = s1 at *
            generalize str vl = s2 at *
            go_wp2_with fail
            refine hN.out.mono ?_
            rintro e w3 ⟨rfl, hb3⟩
            have hB3 := Lib.hid (Below.next hA1.out hA1.out.size hb3)
            have hF3 := hF1.out.below hb3
            have d3 := hF3.cell 1
            replace hF3 := Lib.hid hF3
            have ho3 := Lib.hid (own_below hoA.out hb3)
            clear hb3
            go_wp2_with fail
            refine (hV.out _).mono ?_
            rintro e w5 ⟨rfl, hb5⟩
            have hB5 := Lib.hid (Below.next hB3.out hB3.out.size hb5)
            have hF5 := hF3.out.below hb5
            have d5 := hF5.cell 1
            have ho5 := Lib.hid (own_below ho3.out hb5)
            have hB5s := hB5.out.size
            clear hb5 d3
            go_wp2_with (at_builtin; go_loud (refine push_pair 33 86 Tryd.underlying33 infoCF _ _ rfl rfl rfl ho5.out rfl rfl rfl (by omega) hB5s ?_); intro v7 w7 ho7 hb7; have hB7 := Lib.hid (hB5.out.trans hb7); replace ho7 := Lib.hid ho7; clear hb7)
            go_roundw
            case rel => exact ⟨k + 1, by go_num, by omega, hok2, Lib.hid (by rw [hct.out, hpr.out]; exact ho7.out), hB7⟩
            case measure => simp only [intOf]; omega
          · have hb9 := Lib.hid (hbad.out (fun h => k4 h.2.2))
            clear hV
            have hV := Lib.hid hV3
            clear hV3
            have qs := str_ne k4
            replace k1 := Lib.hid k1
            replace k2 := Lib.hid k2
            replace k4 := Lib.hid k4
            replace hN := Lib.hid hN
            clear hbad hokI
            generalize str (nmV nm) = s1 at *
            generalize str (vlV vl) = s3 at *
            generalize str vl = s2 at *
            go_wp2_with fail
            refine hN.out.mono ?_
            rintro e w3 ⟨rfl, hb3⟩
            have hB3 := Lib.hid (Below.next hA1.out hA1.out.size hb3)
            have hF3 := hF1.out.below hb3
            have d3 := hF3.cell 1
            replace hF3 := Lib.hid hF3
            clear hb3
            go_wp2_with fail
            refine (hV.out _).mono ?_
            rintro e w5 ⟨rfl, hb5⟩
            have hB5 := Lib.hid (Below.next hB3.out hB3.out.size hb5)
            have hF5 := hF3.out.below hb5
            have d5 := hF5.cell 1
            clear hb5 d3
            go_wp2
            go_ret2
            exact CanR.bad hb9.out hB5.out
        · have hb9 := Lib.hid (hbad.out (fun h => k2 h.2.1))
          have hV3 := hV
          simp only [herr_ne k2] at hV3
          clear hV
          have hV := Lib.hid hV3
          clear hV3
          replace k1 := Lib.hid k1
          replace k2 := Lib.hid k2
          replace hN := Lib.hid hN
          clear hbad hokI
          generalize vlE vl = n2 at *
          generalize str (nmV nm) = s1 at *
          generalize str (vlV vl) = s3 at *
          generalize str vl = s2 at *
          go_wp2_with fail
          refine hN.out.mono ?_
          rintro e w3 ⟨rfl, hb3⟩
          have hB3 := Lib.hid (Below.next hA1.out hA1.out.size hb3)
          have hF3 := hF1.out.below hb3
          have d3 := hF3.cell 1
          replace hF3 := Lib.hid hF3
          clear hb3
          go_wp2_with fail
          refine (hV.out _).mono ?_
          rintro e w5 ⟨rfl, hb5⟩
          have hB5 := Lib.hid (Below.next hB3.out hB3.out.size hb5)
          clear hb5 d3
          go_wp2
          go_ret2
          exact CanR.bad hb9.out hB5.out
      · have hb9 := Lib.hid (hbad.out (fun h => k1 h.1))
        rw [herr_ne k1] at hN
        replace k1 := Lib.hid k1
        replace hN := Lib.hid hN
        clear hbad hokI hV
        generalize nmE nm = n1 at *
        generalize str (nmV nm) = s1 at *
        go_wp2_with fail
        refine hN.out.mono ?_
        rintro e w3 ⟨rfl, hb3⟩
        have hB3 := Lib.hid (Below.next hA1.out hA1.out.size hb3)
        clear hb3
        go_wp2
        go_ret2
        exact CanR.bad hb9.out hB3.out
    · obtain rfl : k = l.length := by omega
      rw [List.take_length] at hok ho
      have hcl : (can l).length = l.length := by unfold can; rw [List.length_map]
      replace hcl := Lib.hid hcl
      go_wp2
      go_ret2
      exact CanR.good hok.out (by rw [hcl.out]; exact ho.out) hB.out
end Go.Proofs.YtemlnmelicnneaaDoor
