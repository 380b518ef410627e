/-
  Layer 5: the document's body.
-/
import Derived.Test.YtemlnmelicnneaaDoorHWr
namespace Go.Proofs.YtemlnmelicnneaaDoor
open Go.RowKit Syn Hd Ck

namespace Hd
/-- The name that the document's line has. -/
def nmR (x : List UInt8) : List UInt8 := if nmE x = 0 then nmV x else x
def lnR (p : List UInt8 × List UInt8) : List UInt8 := ln (nmR p.1, p.2)
def lnsR (l : List (List UInt8 × List UInt8)) : List UInt8 := l.flatMap lnR
theorem nmR_len (x : List UInt8) : (nmR x).length = x.length := by
  unfold nmR
  split
  · unfold nmV; rw [if_pos (by assumption), lower_length]
  · rfl
theorem lnR_len (p : List UInt8 × List UInt8) : (lnR p).length = p.1.length + p.2.length + 4 := by
  unfold lnR; rw [ln_len, nmR_len]
theorem lnsR_take {l : List (List UInt8 × List UInt8)} {k : Nat} (h : k < l.length) : lnsR (l.take (k + 1)) = lnsR (l.take k) ++ lnR l[k] := by
  unfold lnsR; rw [List.take_add_one, List.getElem?_eq_getElem h, List.flatMap_append]; simp
theorem lnsR_len : ∀ l : List (List UInt8 × List UInt8), (lnsR l).length = (lns l).length
  | [] => rfl
  | p :: l => by
    have := lnsR_len l
    unfold lnsR lns at this ⊢
    rw [List.flatMap_cons, List.flatMap_cons, List.length_append, List.length_append, this, lnR_len, ln_len]
theorem lnsR_ok : ∀ l : List (List UInt8 × List UInt8), okCs l = true → lnsR l = lns (can l)
  | [], _ => rfl
  | p :: l, h => by
    unfold okCs at h
    rw [List.all_cons, Bool.and_eq_true] at h
    have := lnsR_ok l h.2
    unfold lnsR lns can at this ⊢
    rw [List.map_cons, List.flatMap_cons, List.flatMap_cons, this]
    congr 1
    unfold lnR nmR
    rw [if_pos ((okC_iff p.1 p.2).1 h.1).1]
end Hd
set_option maxRecDepth 100000 in
set_option maxHeartbeats 16000000 in
theorem rbody_any (l : List (List UInt8 × List UInt8)) (v : Value) (w : World) (hR : Rd w 2 v l.length (prs l)) (hs : ∀ p ∈ l, p.1.length ≤ 1000000 ∧ p.2.length ≤ 1000000) (hm : l.length ≤ 1000) :
    Calls Tryd.prog 33 #[v] w fun e w' => e = .returned (.tuple #[.string (str (lnsR l ++ [13, 10])), .bool (okCs l)]) ∧ Below w.heap.size w w' := by
  obtain ⟨A, cap, rfl, hcap, -, -⟩ := id hR
  have hlen := lns_len l 1000000 hs
  have hll := Lib.hid (fun k => lns_le l k)
  replace hR := Lib.hid hR
  replace hs := Lib.hid hs
  go_enter Tryd.func33, Tryd.ntmps33
  go_wp2
  go_loopw [4, 5, 6] (fun o g i wr => ∃ k : Nat, i = .int .i64 (k : Int) ∧ k ≤ l.length ∧ o = .string (str (lnsR (l.take k))) ∧ g = .bool (okCs (l.take k)) ∧ Hid (Below w.heap.size w wr)) (fun _ _ i _ => l.length - (intOf i).toNat)
  case atStart => exact ⟨0, rfl, by omega, rfl, rfl, Lib.hid (Below.refl _ _)⟩
  case round =>
    obtain ⟨k, rfl, hk, rfl, rfl, hB⟩ := hrel
    have hBs := hB.out.size
    have zo : (str (lnsR (l.take k))).size = (lns (l.take k)).length := by rw [str_size, lnsR_len]
    have hlk := hll.out k
    by_cases hlt : k < l.length
    · obtain ⟨A', cap', e', -, -, r'⟩ := hR.out.below hB.out
      cases e'
      obtain ⟨b1, o1, rfl, hb1, x1⟩ := r' (by omega)
      have d1 : wr.cell? ⟨b1, o1 + k * 2, none⟩ = some (.string (str l[k].1)) := x1 _ _ (prs_at0 hlt)
      have d2 : wr.cell? ⟨b1, o1 + k * 2 + 1, none⟩ = some (.string (str l[k].2)) := x1 _ _ (prs_at1 hlt)
      have hR2 := Lib.hid (fun w' (hb : Below w.heap.size w w') => show w'.cell? ⟨b1, o1 + k * 2, none⟩ = some (.string (str l[k].1)) ∧ w'.cell? ⟨b1, o1 + k * 2 + 1, none⟩ = some (.string (str l[k].2)) by
        obtain ⟨A2, cap2, e2, -, -, r2⟩ := hR.out.below hb
        cases e2
        obtain ⟨b2, o2, e3, -, x2⟩ := r2 (by omega)
        cases e3
        exact ⟨x2 _ _ (prs_at0 hlt), x2 _ _ (prs_at1 hlt)⟩)
      have hsz := hs.out l[k] (List.getElem_mem hlt)
      have hokT := okCs_take hlt
      have hct := lnsR_take hlt
      generalize l[k] = p at *
      obtain ⟨nm, vl⟩ := p
      simp only at d1 d2 hsz hR2
      have hL : lnR (nm, vl) = nmR nm ++ [58, 32] ++ vl ++ [13, 10] := rfl
      rw [hL] at hct
      clear x1 r' hL
      have hokI := okC_iff nm vl
      have hN := fun w => r2name_any (str nm) w (by rw [str_size]; omega)
      have hV := fun w => r2value_any (str vl) w (by rw [str_size]; omega)
      simp only [bs_str] at hN hV
      have z1 : (str (nmR nm)).size = nm.length := by rw [str_size, nmR_len]
      have z2 : (str vl).size = vl.length := str_size _
      have z3 : (str (nmR nm) ++ (⟨#[58, 32]⟩ : ByteArray)).size = nm.length + 2 := by rw [ByteArray.size_append, z1]; rfl
      have z4 : (str (nmR nm) ++ (⟨#[58, 32]⟩ : ByteArray) ++ str vl).size = nm.length + 2 + vl.length := by rw [ByteArray.size_append, z3, z2]
      have z5 : (str (nmR nm) ++ (⟨#[58, 32]⟩ : ByteArray) ++ str vl ++ ⟨#[13, 10]⟩).size = nm.length + 2 + vl.length + 2 := by rw [ByteArray.size_append, z4]; rfl
      have hne : str (lnsR (l.take (k + 1))) = str (lnsR (l.take k)) ++ (str (nmR nm) ++ (⟨#[58, 32]⟩ : ByteArray) ++ str vl ++ ⟨#[13, 10]⟩) := by
        rw [hct, ← str_append, ← str_append, ← str_append, ← str_append]; rfl
      clear hct
      replace hne := Lib.hid hne
      replace hokT := Lib.hid hokT
      generalize str (lnsR (l.take k)) = so at *
      generalize okCs (l.take k) = g at *
      by_cases k1 : nmE nm = 0
      · cases g with
        | false =>
          have hnr : nmR nm = nmV nm := if_pos k1
          simp only [hnr] at z1 z3 z4 z5 hne
          simp only [k1] at hN
          replace hnr := Lib.hid hnr
          have hok2 := hokT.out
          rw [Bool.false_and] at hok2
          replace hok2 := Lib.hid hok2
          clear hokI hokT
          replace hN := Lib.hid hN
          replace hV := Lib.hid hV
          replace k1 := Lib.hid k1
          go_wp2_with fail
          refine (hN.out _).mono ?_
          rintro e w3 ⟨rfl, hb3⟩
          have hB3 := Lib.hid (Below.next hB.out hBs hb3)
          obtain ⟨d3, d4⟩ := hR2.out _ hB3.out
          clear hb3 d1 d2
          go_wp2_with fail
          refine (hV.out _).mono ?_
          rintro e w5 ⟨rfl, hb5⟩
          have hB5 := Lib.hid (Below.next hB3.out hB3.out.size hb5)
          obtain ⟨d5, d6⟩ := hR2.out _ hB5.out
          clear hb5 d3 d4
          go_wp2
          go_roundw
          case rel => exact ⟨k + 1, by go_num, by omega, by rw [hne.out], by rw [hok2.out] <;> rfl, hB5⟩
          case measure => simp only [intOf]; omega
        | true =>
          by_cases k2 : vlE vl = 0
          · by_cases k4 : vlV vl = vl
            · have hnr : nmR nm = nmV nm := if_pos k1
              simp only [hnr] at z1 z3 z4 z5 hne
              simp only [k1] at hN
              replace hnr := Lib.hid hnr
              have hof : okC (nm, vl) = true := hokI.2 ⟨k1, k2, k4⟩
              simp only [k2, k4] at hV
              have qs := str_eq (a := vl) (b := vl) rfl
              replace k2 := Lib.hid k2
              replace k4 := Lib.hid k4
              have hok2 := hokT.out
              rw [hof] at hok2
              replace hok2 := Lib.hid hok2
              clear hokI hokT
              replace hN := Lib.hid hN
              replace hV := Lib.hid hV
              replace k1 := Lib.hid k1
              go_wp2_with fail
              refine (hN.out _).mono ?_
              rintro e w3 ⟨rfl, hb3⟩
              have hB3 := Lib.hid (Below.next hB.out hBs hb3)
              obtain ⟨d3, d4⟩ := hR2.out _ hB3.out
              clear hb3 d1 d2
              go_wp2_with fail
              refine (hV.out _).mono ?_
              rintro e w5 ⟨rfl, hb5⟩
              have hB5 := Lib.hid (Below.next hB3.out hB3.out.size hb5)
              obtain ⟨d5, d6⟩ := hR2.out _ hB5.out
              clear hb5 d3 d4
              go_wp2
              go_roundw
              case rel => exact ⟨k + 1, by go_num, by omega, by rw [hne.out], by rw [hok2.out] <;> rfl, hB5⟩
              case measure => simp only [intOf]; omega
            · have hnr : nmR nm = nmV nm := if_pos k1
              simp only [hnr] at z1 z3 z4 z5 hne
              simp only [k1] at hN
              replace hnr := Lib.hid hnr
              have hof : okC (nm, vl) = false := by cases h : okC (nm, vl) with | false => rfl | true => exact absurd (hokI.1 h).2.2 k4
              simp only [k2] at hV
              have qs := str_ne k4
              replace k2 := Lib.hid k2
              replace k4 := Lib.hid k4
              have hok2 := hokT.out
              rw [hof] at hok2
              replace hok2 := Lib.hid hok2
              clear hokI hokT
              replace hN := Lib.hid hN
              replace hV := Lib.hid hV
              replace k1 := Lib.hid k1
              go_wp2_with fail
              refine (hN.out _).mono ?_
              rintro e w3 ⟨rfl, hb3⟩
              have hB3 := Lib.hid (Below.next hB.out hBs hb3)
              obtain ⟨d3, d4⟩ := hR2.out _ hB3.out
              clear hb3 d1 d2
              go_wp2_with fail
              refine (hV.out _).mono ?_
              rintro e w5 ⟨rfl, hb5⟩
              have hB5 := Lib.hid (Below.next hB3.out hB3.out.size hb5)
              obtain ⟨d5, d6⟩ := hR2.out _ hB5.out
              clear hb5 d3 d4
              go_wp2
              go_roundw
              case rel => exact ⟨k + 1, by go_num, by omega, by rw [hne.out], by rw [hok2.out] <;> rfl, hB5⟩
              case measure => simp only [intOf]; omega
          · have hnr : nmR nm = nmV nm := if_pos k1
            simp only [hnr] at z1 z3 z4 z5 hne
            simp only [k1] at hN
            replace hnr := Lib.hid hnr
            have hof : okC (nm, vl) = false := by cases h : okC (nm, vl) with | false => rfl | true => exact absurd (hokI.1 h).2.1 k2
            generalize vlE vl = n2 at *
            have hok2 := hokT.out
            rw [hof] at hok2
            replace hok2 := Lib.hid hok2
            clear hokI hokT
            replace hN := Lib.hid hN
            replace hV := Lib.hid hV
            replace k1 := Lib.hid k1
            go_wp2_with fail
            refine (hN.out _).mono ?_
            rintro e w3 ⟨rfl, hb3⟩
            have hB3 := Lib.hid (Below.next hB.out hBs hb3)
            obtain ⟨d3, d4⟩ := hR2.out _ hB3.out
            clear hb3 d1 d2
            go_wp2_with fail
            refine (hV.out _).mono ?_
            rintro e w5 ⟨rfl, hb5⟩
            have hB5 := Lib.hid (Below.next hB3.out hB3.out.size hb5)
            obtain ⟨d5, d6⟩ := hR2.out _ hB5.out
            clear hb5 d3 d4
            go_wp2
            go_roundw
            case rel => exact ⟨k + 1, by go_num, by omega, by rw [hne.out], by rw [hok2.out] <;> rfl, hB5⟩
            case measure => simp only [intOf]; omega
      · cases g with
        | false =>
          have hnr : nmR nm = nm := if_neg k1
          simp only [hnr] at z1 z3 z4 z5 hne
          replace hnr := Lib.hid hnr
          have hok2 := hokT.out
          rw [Bool.false_and] at hok2
          replace hok2 := Lib.hid hok2
          clear hokI hokT
          replace hN := Lib.hid hN
          replace hV := Lib.hid hV
          generalize nmE nm = n1 at *
          go_wp2_with fail
          refine (hN.out _).mono ?_
          rintro e w3 ⟨rfl, hb3⟩
          have hB3 := Lib.hid (Below.next hB.out hBs hb3)
          obtain ⟨d3, d4⟩ := hR2.out _ hB3.out
          clear hb3 d1 d2
          go_wp2_with fail
          refine (hV.out _).mono ?_
          rintro e w5 ⟨rfl, hb5⟩
          have hB5 := Lib.hid (Below.next hB3.out hB3.out.size hb5)
          obtain ⟨d5, d6⟩ := hR2.out _ hB5.out
          clear hb5 d3 d4
          go_wp2
          go_roundw
          case rel => exact ⟨k + 1, by go_num, by omega, by rw [hne.out], by rw [hok2.out] <;> rfl, hB5⟩
          case measure => simp only [intOf]; omega
        | true =>
          have hnr : nmR nm = nm := if_neg k1
          simp only [hnr] at z1 z3 z4 z5 hne
          replace hnr := Lib.hid hnr
          have hof : okC (nm, vl) = false := by cases h : okC (nm, vl) with | false => rfl | true => exact absurd (hokI.1 h).1 k1
          have hok2 := hokT.out
          rw [hof] at hok2
          replace hok2 := Lib.hid hok2
          clear hokI hokT
          replace hN := Lib.hid hN
          replace hV := Lib.hid hV
          generalize nmE nm = n1 at *
          go_wp2_with fail
          refine (hN.out _).mono ?_
          rintro e w3 ⟨rfl, hb3⟩
          have hB3 := Lib.hid (Below.next hB.out hBs hb3)
          obtain ⟨d3, d4⟩ := hR2.out _ hB3.out
          clear hb3 d1 d2
          go_wp2_with fail
          refine (hV.out _).mono ?_
          rintro e w5 ⟨rfl, hb5⟩
          have hB5 := Lib.hid (Below.next hB3.out hB3.out.size hb5)
          obtain ⟨d5, d6⟩ := hR2.out _ hB5.out
          clear hb5 d3 d4
          go_wp2
          go_roundw
          case rel => exact ⟨k + 1, by go_num, by omega, by rw [hne.out], by rw [hok2.out] <;> rfl, hB5⟩
          case measure => simp only [intOf]; omega
    · obtain rfl : k = l.length := by omega
      rw [List.take_length] at zo ⊢
      have he : str (lnsR l ++ [13, 10]) = str (lnsR l) ++ (⟨#[13, 10]⟩ : ByteArray) := by rw [← str_append]; rfl
      replace he := Lib.hid he
      generalize str (lnsR l) = so at *
      go_wp2
      go_ret2
      exact ⟨by rw [he.out]; rfl, hB.out⟩
end Go.Proofs.YtemlnmelicnneaaDoor
