/-
  Layer 33: the document's Edge.
-/
import Derived.Test.YtkcipebpknapkaaGreatDoorTEdge
import Derived.Test.YtkcipebpknapkaaGreatDoorTShield
namespace Go.Proofs.YtkcipebpknapkaaGreatDoor
open Go.Shelf Go.RowKit Go.Lib Go.Sort Rg Syn Ti
set_option maxRecDepth 100000 in
set_option maxHeartbeats 16000000 in
theorem redge_any (w : World) (vo vu : Value) (AP : Option Addr) (cP : Nat) (O up path : List Bytes) (self : Bytes) (tries : Int) (hO : Rd w 1 vo O.length (strs O)) (hol : O.length ≤ 1000) (hU : Rd w 1 vu up.length (strs up)) (hul : up.length ≤ 100000) (hnil : AP = none → cP = 0) (hP : Rd w 1 (.slice AP path.length cP) path.length (strs path)) (hpl : path.length ≤ 100000) :
    Calls Tryz.prog 11 #[.string (str self), vo, vu, .slice AP path.length cP, .int .i64 tries] w fun e w' => e = .returned (.tuple #[.string (str (edS (atN path self) (cands O up path self) tries)), .int .i64 (edE (atN path self) (cands O up path self) tries)]) ∧ Below w.heap.size w w' := by
  obtain ⟨AO, cO, rfl, hcO, -, -⟩ := id hO
  obtain ⟨AU, cU, rfl, hcU, -, -⟩ := id hU
  have hat := rat_any path self AP cP w hnil hP (by omega)
  by_cases hbad : atN path self = 0
  · rw [hbad] at hat ⊢
    have HO := Lib.hid hO
    have HU := Lib.hid hU
    clear hO hU hP hnil hbad
    go_enter Tryz.func11, Tryz.ntmps11
    go_wp2_with fail
    refine hat.mono ?_
    rintro e w1 ⟨v, rfl, hwh, hb1⟩
    have hwo := hwh (by first | trivial | rfl)
    have hB1 := Lib.hid hb1
    have hWr := Rd.own hwo
    obtain ⟨AW, cW, rfl, hcW, -, -⟩ := Rd.own hwo
    rw [show path.length + 1 = (path ++ [self]).length by simp] at hWr
    have HW := Lib.hid hWr
    have HO1 := Lib.hid (HO.out.below hb1)
    have HU1 := Lib.hid (HU.out.below hb1)
    have hwm := Lib.hid (fun x => (show x ∈ path ++ [self] ↔ x ∈ path ∨ x = self by simp))
    have hz1 := hb1.size
    obtain ⟨W, hW⟩ : ∃ W, path ++ [self] = W := ⟨_, rfl⟩
    have hWl : path.length + 1 = W.length := by rw [← hW]; simp
    rw [hW] at HW hwm
    rw [hWl]
    have hWl2 : W.length ≤ 100001 := by omega
    clear hwh hwo hb1 hat hWr hW HO HU hcW hWl
    go_wp2_with fail
    go_loopw [14, 28] (fun o i wr => ∃ k : Nat, i = .int .i64 (k : Int) ∧ k ≤ O.length ∧ Hid (Own wr w1.heap.size 9 1 o (cands (O.take k) up path self).length (strs (cands (O.take k) up path self))) ∧ Hid (Below w1.heap.size w1 wr)) (fun _ i _ => O.length - (intOf i).toNat)
    case atStart => exact ⟨0, rfl, by omega, own_nil _ _ _ _, Below.refl _ _⟩
    case round =>
      obtain ⟨k, rfl, hk, ho, hB⟩ := hrel
      by_cases hlt : k < O.length
      · obtain ⟨A', c', e', -, -, r'⟩ := HO1.out.below hB.out
        cases e'
        obtain ⟨g, of, rfl, _, x1⟩ := r' (by omega)
        have t0 : wr.cell? ⟨g, of + k, none⟩ = some (.string (str O[k])) := x1 k _ (strs_at hlt)
        have htk := cands_take (up := up) (path := path) (self := self) hlt
        have hcl := cands_len (O.take k) up path self
        rw [List.length_take] at hcl
        have hcl2 : (cands (O.take k) up path self).length ≤ 1000 := by omega
        have g1 : (0 : Int) ≤ (k : Int) := by omega
        have g2 : (k : Int) < (O.length : Int) := by omega
        clear x1 r' hcl
        generalize O[k] = x at *
        have hBz := hB.out.size
        have hcu := has_any up x AU cU wr (HU1.out.below hB.out) (by omega)
        have hcp := has_any W x AW cW wr (HW.out.below hB.out) (by omega)
        by_cases h1 : x ∈ up
        · rw [decide_eq_true h1] at hcu htk
          by_cases h2 : x ∈ W
          · rw [decide_eq_true h2] at hcp
            rw [if_neg (by rcases (hwm.out x).1 h2 with h | h <;> simp [h]), List.append_nil] at htk
            have hn := Lib.hid htk
            clear htk h1 h2
            go_wp2_with fail
            refine hcu.mono ?_
            rintro e w' ⟨rfl, rfl⟩
            go_wp2_with fail
            refine hcp.mono ?_
            rintro e w' ⟨rfl, rfl⟩
            go_wp2_with fail
            go_roundw
            case rel => exact ⟨k + 1, by go_num, by omega, by rw [hn.out]; exact ho.out, hB.out⟩
            case measure => simp [intOf]; omega
          · rw [decide_eq_false h2] at hcp
            have h3 : x ∉ path ∧ x ≠ self := ⟨fun h => h2 ((hwm.out x).2 (.inl h)), fun h => h2 ((hwm.out x).2 (.inr h))⟩
            rw [if_pos (by simp [h3.1, h3.2])] at htk
            have hn := Lib.hid htk
            clear htk h1 h2 h3
            generalize cands (O.take k) up path self = C at *
            go_wp2_with fail
            refine hcu.mono ?_
            rintro e w' ⟨rfl, rfl⟩
            go_wp2_with fail
            refine hcp.mono ?_
            rintro e w' ⟨rfl, rfl⟩
            go_wp2_with (at_builtin; refine push_str _ _ rfl rfl rfl ho.out rfl rfl (by omega) hBz ?_; intro v8 w8 ho8 hb8; replace ho8 := Lib.hid ho8; have hB8 := Lib.hid (hB.out.trans hb8); clear hb8)
            go_roundw
            case rel => exact ⟨k + 1, by go_num, by omega, by rw [hn.out, strs_snoc, List.length_append, List.length_singleton]; exact ho8.out, hB8.out⟩
            case measure => simp [intOf]; omega
        · rw [decide_eq_false h1] at hcu
          rw [if_neg (by simp [h1]), List.append_nil] at htk
          have hn := Lib.hid htk
          clear htk h1
          go_wp2_with fail
          refine hcu.mono ?_
          rintro e w' ⟨rfl, rfl⟩
          go_wp2_with fail
          go_roundw
          case rel => exact ⟨k + 1, by go_num, by omega, by rw [hn.out]; exact ho.out, hB.out⟩
          case measure => simp [intOf]; omega
      · have hko : O.take k = O := List.take_of_length_le (by omega)
        rw [hko] at ho
        have hcl := cands_len O up path self
        have hcl2 : (cands O up path self).length ≤ 1000 := by omega
        have hBz := hB.out.size
        have hge := Lib.hid hlt
        have HwB := Lib.hid hB1.out
        clear hko hcl
        generalize hCd : cands O up path self = C at *
        have HCd := Lib.hid hCd
        clear hCd
        obtain ⟨M, hM⟩ : ∃ M, C.length + 1 = M := ⟨_, rfl⟩
        have HM := Lib.hid hM
        have hM2 : M ≤ 1001 := by omega
        clear hM
        by_cases hneg : tries < 0
        · have hres := Lib.hid (edE_neg (c := C) hneg)
          go_wp2_with (at_builtin; refine push_str _ _ rfl rfl rfl ho.out rfl rfl (by omega) hBz ?_; intro v8 w8 ho8 hb8; rw [HM.out] at ho8; obtain ⟨g8, c8, rfl⟩ := own_some ho8 (by have := HM.out; omega); replace ho8 := Lib.hid ho8; have hB8 := Lib.hid (hB.out.trans hb8); clear hb8)
          have hBf := Lib.hid (Below.next hB1.out hz1 hB8.out)
          go_ret2
          exact ⟨by rw [HCd.out, hres.out.1, hres.out.2]; rfl, hBf.out⟩
        · obtain ⟨t, rfl⟩ : ∃ t : Nat, tries = (t : Int) := ⟨tries.toNat, by omega⟩
          by_cases hgt : C.length < t
          · have hres := Lib.hid (edE_past hgt)
            have g1 : (M : Int) ≤ (t : Int) := by have := HM.out; omega
            have Hgt := Lib.hid hgt
            clear hgt
            go_wp2_with (at_builtin; refine push_str _ _ rfl rfl rfl ho.out rfl rfl (by omega) hBz ?_; intro v8 w8 ho8 hb8; rw [HM.out] at ho8; obtain ⟨g8, c8, rfl⟩ := own_some ho8 (by have := HM.out; omega); replace ho8 := Lib.hid ho8; have hB8 := Lib.hid (hB.out.trans hb8); clear hb8)
            have hBf := Lib.hid (Below.next hB1.out hz1 hB8.out)
            go_ret2
            exact ⟨by rw [HCd.out, hres.out.1, hres.out.2]; rfl, hBf.out⟩
          · have hres := Lib.hid (edS_at (c := C) (i := t) (by omega))
            have g1 : ¬ (M : Int) ≤ (t : Int) := by have := HM.out; omega
            have htl : t < (C ++ [org]).length := by rw [List.length_append, List.length_singleton]; omega
            have hsn := Lib.hid (show strs C ++ [.string ⟨#[111, 114, 105, 103, 105, 110]⟩] = strs (C ++ [org]) from (strs_snoc C org).symm)
            have hta := Lib.hid (strs_at htl)
            have hrs := Lib.hid hres.out.1
            have g3 : (0 : Int) ≤ (t : Int) := by omega
            have g4 : (t : Int) < (M : Int) := by have := HM.out; omega
            generalize (C ++ [org])[t] = x at *
            clear hgt htl
            go_wp2_with (at_builtin; refine push_str _ _ rfl rfl rfl ho.out rfl rfl (by omega) hBz ?_; intro v8 w8 ho8 hb8; rw [HM.out] at ho8; obtain ⟨g8, c8, rfl⟩ := own_some ho8 (by have := HM.out; omega); replace ho8 := Lib.hid ho8; have hB8 := Lib.hid (hB.out.trans hb8); clear hb8; have t0 : w8.cell? ⟨g8, t, none⟩ = some (.string (str x)) := (by have h := ho8.out; rw [hsn.out] at h; exact own_at h hta.out))
            have hBf := Lib.hid (Below.next hB1.out hz1 hB8.out)
            go_ret2
            exact ⟨by rw [HCd.out, hrs.out, hres.out.2]; rfl, hBf.out⟩
  · have hres := Lib.hid (edE_bad hbad (cands O up path self) tries)
    have g1 : ((atN path self) == 0) = false := beq_eq_false_iff_ne.2 hbad
    clear hO hU hP hbad hnil
    generalize atN path self = bad at *
    go_enter Tryz.func11, Tryz.ntmps11
    go_wp2_with fail
    refine hat.mono ?_
    rintro e w1 ⟨v, rfl, -, hb1⟩
    have hB1 := Lib.hid hb1
    clear hb1 hat
    go_wp2_with fail
    go_ret2
    exact ⟨by rw [hres.out.1, hres.out.2]; rfl, hB1.out⟩
end Go.Proofs.YtkcipebpknapkaaGreatDoor
