/-
  Layer 33: Edge, the code's and the document's.
-/
import Derived.Test.YtpfpjcfacbfjaaaGreatDoorTEdgeP
import Derived.Test.YtpfpjcfacbfjaaaGreatDoorTAwake
import Derived.IntWalk
namespace Go.Proofs.YtpfpjcfacbfjaaaGreatDoor
open Go.Shelf Go.RowKit Go.Lib Go.Sort Rg Syn Ti
namespace Ti
theorem edE_neg {c : List Bytes} {t : Int} (h : t < 0) : edS 0 c t = [] ∧ edE 0 c t = 3 := by
  have h : (t < 0 ∨ (c.length : Int) < t) := Or.inl h
  unfold edS edE
  rw [if_neg (by simp), if_pos h, if_neg (by simp), if_pos h]
  exact ⟨rfl, rfl⟩
theorem all_last (c : List Bytes) : (c ++ [org])[c.length]'(by rw [List.length_append, List.length_singleton]; omega) = org := by
  rw [List.getElem_append_right (Nat.le_refl _)]; simp
theorem all_at {c : List Bytes} {i : Nat} (h : i < c.length) : (c ++ [org])[i]'(by rw [List.length_append, List.length_singleton]; omega) = c[i] := List.getElem_append_left h
end Ti
set_option maxRecDepth 100000 in
set_option maxHeartbeats 16000000 in
theorem edge_any (w : World) (B loc : Nat) (v1 v2 vu vp : Value) (L : List Nd) (key self : Bytes) (up path : List Bytes) (tries : Int) (hr : Ring2 w B loc v1 v2 (ascOf L) (ptsOf L)) (hg : Rg.Good L) (hL : L.length ≤ 1000) (hkey : key.length ≤ 1000000) (hU : Rd w 1 vu up.length (strs up)) (hul : up.length ≤ 100000) (hP : Rd w 1 vp path.length (strs path)) (hpl : path.length ≤ 100000) :
    Calls Tryz.prog 13 #[.string (str self), .pointer (some ⟨loc, 0, none⟩), vu, .string (str key), vp, .int .i64 tries] w fun e w' => e = .returned (.tuple #[.string (str (edS (atN path self) (cands (own (ptsOf L) (Sk.hash 255 key)) up path self) tries)), errV (edE (atN path self) (cands (own (ptsOf L) (Sk.hash 255 key)) up path self) tries)]) ∧ Below w.heap.size w w' := by
  obtain ⟨AU, cU, rfl, hcU, -, -⟩ := id hU
  obtain ⟨AP, cP, rfl, hcP, -, -⟩ := id hP
  have hat := at_any path self AP cP w hP (by omega)
  by_cases hbad : atN path self = 0
  · rw [hbad] at hat ⊢
    have hat' : Calls Tryz.prog 30 #[.slice AP path.length cP, .string (str self)] w fun e w' => e = .returned .nilIface ∧ Below w.heap.size w w' := hat
    have hno := fun X (hX : Below w.heap.size w X) => nodes_yes X B loc v1 v2 _ _ (hr.below hX) (by rw [hg.len]; omega)
    rw [hg.len] at hno
    have hon := fun X (hX : Below w.heap.size w X) => owners_any X B loc v1 v2 (ascOf L) (ptsOf L) key (L.length : Int) (hr.below hX) (srt_srt _) hg.sub (by rw [hg.len]; omega) (by have := hg.plen; omega) hkey (by omega)
    rw [hg.owners_all _ _ (Int.le_refl _), hg.own_len] at hon
    have hol := Lib.hid (hg.own_len (Sk.hash 255 key))
    have Hno := Lib.hid hno
    have Hon := Lib.hid hon
    have HU := Lib.hid hU
    have HP := Lib.hid hP
    clear hno hon hr hg hU hP hat hbad
    generalize own (ptsOf L) (Sk.hash 255 key) = O at *
    go_enter Tryz.func13, Tryz.ntmps13
    go_wp2_with fail
    refine hat'.mono ?_
    rintro e w1 ⟨rfl, hb1⟩
    have hB1 := Lib.hid hb1
    clear hb1 hat'
    go_wp2_with fail
    refine (Hno.out _ hB1.out).mono ?_
    rintro e w2 ⟨o1, rfl, ho1, hb2⟩
    have hB2 := Lib.hid (Below.next hB1.out hB1.out.size hb2)
    obtain ⟨A1, c1, rfl, hc1, -, -⟩ := Rd.own ho1
    clear ho1 hb2
    go_wp2_with fail
    refine (Hon.out _ hB2.out).mono ?_
    rintro e w3 ⟨o2, rfl, ho2, hb3⟩
    have hB3 := Lib.hid (Below.next hB2.out hB2.out.size hb3)
    have hO := Lib.hid (Rd.own ho2)
    obtain ⟨A2, c2, rfl, hc2, -, -⟩ := Rd.own ho2
    clear ho2 hb3
    have HU3 := Lib.hid (HU.out.below hB3.out)
    have HP3 := Lib.hid (HP.out.below hB3.out)
    have hz3 := hB3.out.size
    go_wp2_with fail
    go_loopw [15, 31] (fun o i wr => ∃ k : Nat, i = .int .i64 (k : Int) ∧ k ≤ L.length ∧ Hid (Own wr w3.heap.size 9 1 o (cands (O.take k) up path self).length (strs (cands (O.take k) up path self))) ∧ Hid (Below w3.heap.size w3 wr)) (fun _ i _ => L.length - (intOf i).toNat)
    case atStart => exact ⟨0, rfl, by omega, own_nil _ _ _ _, Below.refl _ _⟩
    case round =>
      obtain ⟨k, rfl, hk, ho, hB⟩ := hrel
      by_cases hlt : k < L.length
      · obtain ⟨A', c', e', -, -, r'⟩ := hO.out.below hB.out
        cases e'
        obtain ⟨g, of, rfl, _, x1⟩ := r' (by omega)
        have hkO : k < O.length := by rw [hol.out]; exact hlt
        have t0 : wr.cell? ⟨g, of + k, none⟩ = some (.string (str O[k])) := x1 k _ (strs_at hkO)
        have htk := cands_take (up := up) (path := path) (self := self) hkO
        have hcl := cands_len (O.take k) up path self
        rw [List.length_take] at hcl
        have hcl2 : (cands (O.take k) up path self).length ≤ 1000 := by omega
        have g1 : (0 : Int) ≤ (k : Int) := by omega
        have g2 : (k : Int) < (L.length : Int) := by omega
        clear x1 r' hcl
        generalize O[k] = x at *
        have hBz := hB.out.size
        have hcu := contains_any up x AU cU wr (HU3.out.below hB.out) (by omega)
        have hcp := contains_any path x AP cP wr (HP3.out.below hB.out) (by omega)
        by_cases h1 : x ∈ up
        · rw [decide_eq_true h1] at hcu htk
          by_cases h2 : x ∈ path
          · rw [decide_eq_true h2] at hcp
            rw [if_neg (by simp [h2]), List.append_nil] at htk
            have hn := Lib.hid htk
            clear htk h1 h2
            go_wp2_with fail
            refine hcu.mono ?_
            rintro e w' ⟨rfl, rfl⟩
            go_wp2_with fail
            refine hcp.mono ?_
            rintro e w' ⟨rfl, rfl⟩
            go_wp2_with fail
            go_roundw
            case rel => exact ⟨k + 1, by go_num, by omega, by rw [hn.out]; exact ho.out, hB.out⟩
            case measure => simp [intOf]; omega
          · rw [decide_eq_false h2] at hcp
            by_cases h3 : x = self
            · have q1 := str_eq h3
              rw [if_neg (by simp [h3]), List.append_nil] at htk
              have hn := Lib.hid htk
              clear htk h1 h2 h3
              go_wp2_with fail
              refine hcu.mono ?_
              rintro e w' ⟨rfl, rfl⟩
              go_wp2_with fail
              refine hcp.mono ?_
              rintro e w' ⟨rfl, rfl⟩
              go_wp2_with fail
              go_roundw
              case rel => exact ⟨k + 1, by go_num, by omega, by rw [hn.out]; exact ho.out, hB.out⟩
              case measure => simp [intOf]; omega
            · have q1 := str_ne h3
              rw [if_pos (by simp [h2, h3])] at htk
              have hn := Lib.hid htk
              clear htk h1 h2 h3
              generalize cands (O.take k) up path self = C at *
              go_wp2_with fail
              refine hcu.mono ?_
              rintro e w' ⟨rfl, rfl⟩
              go_wp2_with fail
              refine hcp.mono ?_
              rintro e w' ⟨rfl, rfl⟩
              go_wp2_with (at_builtin; refine push_str _ _ rfl rfl rfl ho.out rfl rfl (by omega) hBz ?_; intro v8 w8 ho8 hb8; replace ho8 := Lib.hid ho8; have hB8 := Lib.hid (hB.out.trans hb8); clear hb8)
              go_roundw
              case rel => exact ⟨k + 1, by go_num, by omega, by rw [hn.out, strs_snoc, List.length_append, List.length_singleton]; exact ho8.out, hB8.out⟩
              case measure => simp [intOf]; omega
        · rw [decide_eq_false h1] at hcu
          rw [if_neg (by simp [h1]), List.append_nil] at htk
          have hn := Lib.hid htk
          clear htk h1
          go_wp2_with fail
          refine hcu.mono ?_
          rintro e w' ⟨rfl, rfl⟩
          go_wp2_with fail
          go_roundw
          case rel => exact ⟨k + 1, by go_num, by omega, by rw [hn.out]; exact ho.out, hB.out⟩
          case measure => simp [intOf]; omega
      · have hko : O.take k = O := List.take_of_length_le (by rw [hol.out]; omega)
        rw [hko] at ho
        have hC := Lib.hid (Rd.own ho.out)
        have hBf := Lib.hid (Below.next hB3.out hz3 hB.out)
        have hcl := cands_len O up path self
        rw [hol.out] at hcl
        obtain ⟨A9, c9, rfl, hc9, -, -⟩ := Rd.own ho.out
        clear hko ho
        generalize hCd : cands O up path self = C at *
        have HCd := Lib.hid hCd
        clear hCd
        by_cases hneg : tries < 0
        · have hres := Lib.hid (edE_neg (c := C) hneg)
          go_wp2_with fail
          go_ret2
          exact ⟨by rw [HCd.out, hres.out.1, hres.out.2]; rfl, hBf.out⟩
        · obtain ⟨t, rfl⟩ : ∃ t : Nat, tries = (t : Int) := ⟨tries.toNat, by omega⟩
          by_cases hgt : C.length < t
          · have hres := Lib.hid (edE_past hgt)
            have g1 : (C.length : Int) < (t : Int) := by omega
            go_wp2_with fail
            go_ret2
            exact ⟨by rw [HCd.out, hres.out.1, hres.out.2]; rfl, hBf.out⟩
          · have hres := Lib.hid (edS_at (c := C) (i := t) (by omega))
            have g1 : ¬ (C.length : Int) < (t : Int) := by omega
            by_cases heq : t = C.length
            · have g2 : ((t : Int) == (C.length : Int)) = true := by rw [beq_iff_eq]; omega
              have hrs : Hid (edS 0 C (t : Int) = org) := by
                show _ = _
                rw [hres.out.1]
                subst heq
                exact all_last C
              have Heq := Lib.hid heq
              clear heq
              go_wp2_with fail
              go_ret2
              exact ⟨by rw [HCd.out, hrs.out, hres.out.2]; rfl, hBf.out⟩
            · have g2 : ((t : Int) == (C.length : Int)) = false := beq_eq_false_iff_ne.2 (by omega)
              have htl : t < C.length := by omega
              obtain ⟨A', c', e', -, -, r'⟩ := hC.out
              cases e'
              obtain ⟨g, of, rfl, _, x1⟩ := r' (by omega)
              have t0 : wr.cell? ⟨g, of + t, none⟩ = some (.string (str C[t])) := x1 t _ (strs_at htl)
              have hrs : Hid (edS 0 C (t : Int) = C[t]) := by
                show _ = _
                rw [hres.out.1]; exact all_at htl
              have g3 : (0 : Int) ≤ (t : Int) := by omega
              have g4 : (t : Int) < (C.length : Int) := by omega
              clear x1 r'
              generalize C[t] = x at *
              go_wp2_with fail
              go_ret2
              exact ⟨by rw [HCd.out, hrs.out, hres.out.2]; rfl, hBf.out⟩
  · have hres := Lib.hid (edE_bad hbad (cands (own (ptsOf L) (Sk.hash 255 key)) up path self) tries)
    obtain ⟨h0, hev⟩ := (errV_cases (atN path self)).resolve_left (fun h => hbad h.1)
    rw [hev] at hat
    have Hev := Lib.hid hev
    clear hr hg hU hP hbad hev h0
    generalize atN path self = bad at *
    go_enter Tryz.func13, Tryz.ntmps13
    go_wp2_with fail
    refine hat.mono ?_
    rintro e w1 ⟨rfl, hb1⟩
    have hB1 := Lib.hid hb1
    clear hb1 hat
    go_wp2_with fail
    go_ret2
    exact ⟨by rw [hres.out.1, hres.out.2, Hev.out]; rfl, hB1.out⟩
end Go.Proofs.YtpfpjcfacbfjaaaGreatDoor
