/-
  Layers 2 and 5: one value for a name; the one host.
-/
import Derived.Test.YtemlnmelicnneaaDoorHAll
import Derived.Test.YtemlnmelicnneaaDoorHHost
import Derived.Test.YtemlnmelicnneaaDoorGWr
namespace Go.Proofs.YtemlnmelicnneaaDoor
open Go.RowKit Syn Fr Hd Ck

namespace Hd
def hostN : List UInt8 := [104, 111, 115, 116]
def stp (nm v : List UInt8) (a : List (List UInt8 × List UInt8) × Bool) (p : List UInt8 × List UInt8) : List (List UInt8 × List UInt8) × Bool :=
  if Syn.lower p.1 = nm then (if a.2 = true then a else (a.1 ++ [(nm, v)], true)) else (a.1 ++ [p], a.2)
def setF (nm v : List UInt8) (l : List (List UInt8 × List UInt8)) : List (List UInt8 × List UInt8) × Bool := l.foldl (stp nm v) ([], false)
/-- What Set returns. -/
def setV (nm v : List UInt8) (l : List (List UInt8 × List UInt8)) : List (List UInt8 × List UInt8) := if (setF nm v l).2 = true then (setF nm v l).1 else (setF nm v l).1 ++ [(nm, v)]
theorem setF_take {nm v : List UInt8} {l : List (List UInt8 × List UInt8)} {k : Nat} (h : k < l.length) : setF nm v (l.take (k + 1)) = stp nm v (setF nm v (l.take k)) l[k] := by
  unfold setF; rw [List.take_succ_eq_append_getElem h, List.foldl_append]; rfl
theorem setF_len (nm v : List UInt8) : ∀ (l : List (List UInt8 × List UInt8)) (a : List (List UInt8 × List UInt8) × Bool), (l.foldl (stp nm v) a).1.length ≤ a.1.length + l.length
  | [], a => Nat.le_refl _
  | p :: r, a => by
    rw [List.foldl_cons]
    have := setF_len nm v r (stp nm v a p)
    have h2 : (stp nm v a p).1.length ≤ a.1.length + 1 := by
      unfold stp
      split
      · split <;> simp
      · simp
    rw [List.length_cons]; omega
/-- A name's one value given anew. -/
def rep (nm h : List UInt8) (p : List UInt8 × List UInt8) : List UInt8 × List UInt8 := if Syn.lower p.1 = nm then (nm, h) else p
theorem setF_none (nm v : List UInt8) : ∀ (l : List (List UInt8 × List UInt8)) (o : List (List UInt8 × List UInt8)) (d : Bool), (∀ p ∈ l, Syn.lower p.1 ≠ nm) → l.foldl (stp nm v) (o, d) = (o ++ l, d)
  | [], o, d, _ => by simp
  | p :: r, o, d, h => by
    rw [List.foldl_cons, show stp nm v (o, d) p = (o ++ [p], d) from if_neg (h p (by simp)), setF_none nm v r _ _ (fun q hq => h q (by simp [hq]))]
    simp
theorem rep_none (nm v : List UInt8) {l : List (List UInt8 × List UInt8)} (h : ∀ p ∈ l, Syn.lower p.1 ≠ nm) : l.map (rep nm v) = l := by
  conv => rhs; rw [← List.map_id l]
  exact List.map_congr_left fun p hp => if_neg (h p hp)
theorem allV_cons (p : List UInt8 × List UInt8) (r : List (List UInt8 × List UInt8)) (nm : List UInt8) : allV (p :: r) nm = if Syn.lower p.1 = Syn.lower nm then p.2 :: allV r nm else allV r nm := by
  unfold allV
  rw [List.filter_cons]
  by_cases h : Syn.lower p.1 = Syn.lower nm
  · rw [if_pos h, if_pos (by simpa using h)]; rfl
  · rw [if_neg h, if_neg (by simpa using h)]
theorem allV_nil {l : List (List UInt8 × List UInt8)} {nm : List UInt8} (h : allV l nm = []) : ∀ p ∈ l, Syn.lower p.1 ≠ Syn.lower nm := by
  intro p hp he
  unfold allV at h
  rw [List.map_eq_nil_iff, List.filter_eq_nil_iff] at h
  exact h p hp (by simpa using he)
theorem setF_one (nm v : List UInt8) (hl : Syn.lower nm = nm) : ∀ (l : List (List UInt8 × List UInt8)) (o : List (List UInt8 × List UInt8)), (allV l nm).length = 1 → l.foldl (stp nm v) (o, false) = (o ++ l.map (rep nm v), true)
  | [], o, h => by simp [allV] at h
  | p :: r, o, h => by
    rw [allV_cons, hl] at h
    rw [List.foldl_cons]
    by_cases hp : Syn.lower p.1 = nm
    · rw [if_pos hp] at h
      have hn : allV r nm = [] := List.eq_nil_of_length_eq_zero (by simpa using h)
      have hn2 := allV_nil hn
      rw [hl] at hn2
      rw [show stp nm v (o, false) p = (o ++ [(nm, v)], true) from by unfold stp; rw [if_pos hp]; rfl, setF_none nm v r _ _ hn2, List.map_cons, rep_none nm v hn2, show rep nm v p = (nm, v) from if_pos hp]
      simp
    · rw [if_neg hp] at h
      rw [show stp nm v (o, false) p = (o ++ [p], false) from if_neg hp, setF_one nm v hl r _ h, List.map_cons, show rep nm v p = p from if_neg hp]
      simp
theorem setV_one {nm v : List UInt8} (hl : Syn.lower nm = nm) {l : List (List UInt8 × List UInt8)} (h : (allV l nm).length = 1) : setV nm v l = l.map (rep nm v) := by
  unfold setV setF
  rw [setF_one nm v hl l [] h]; simp
theorem low_host : Syn.lower hostN = hostN := by decide
/-- The canonical value of the one host; none unless there is exactly one, and right. -/
def hsX (l : List (List UInt8 × List UInt8)) : Option (List UInt8) := match allV l hostN with | [x] => if hostB x = true then some (Syn.lower x) else none | _ => none
end Hd
set_option maxRecDepth 100000 in
set_option maxHeartbeats 4000000 in
theorem fset_any (L : List (List UInt8 × List UInt8)) (x v : List UInt8) (sv : Value) (w : World) (hs : ∀ p ∈ L, p.1.length ≤ 1000000 ∧ p.2.length ≤ 1000000) (hlen : L.length ≤ 1000) (hn : x.length ≤ 1000) (hR : Rd w 2 sv L.length (prs L)) :
    Calls Tryd.prog 55 #[sv, .string (str x), .string (str v)] w fun e w' => ∃ o, e = .returned o ∧ Own w' w.heap.size 86 2 o (setV (Syn.lower x) v L).length (prs (setV (Syn.lower x) v L)) ∧ Below w.heap.size w w' := by
  obtain ⟨A, cap, rfl, hcap, -, -⟩ := id hR
  replace hs := Lib.hid hs
  have hL : ∀ w, Calls Tryd.prog 64 #[.string (str x)] w fun e w' => e = .returned (.string (str (Syn.lower x))) ∧ Below w.heap.size w w' := fun w => flower_any (str x) w (by rw [str_size]; omega)
  replace hL := Lib.hid hL
  generalize Syn.lower x = nm at *
  go_enter Tryd.func55, Tryd.ntmps55
  go_wp2_with fail
  refine (hL.out _).mono ?_
  rintro e w1 ⟨rfl, hb1⟩
  replace hR := Lib.hid (hR.below hb1)
  replace hb1 := Lib.hid hb1
  go_wp2
  go_loopw [7, 8, 15] (fun o d i wr => ∃ k : Nat, i = .int .i64 (k : Int) ∧ k ≤ L.length ∧ d = .bool (setF nm v (L.take k)).2 ∧ Hid (Own wr w1.heap.size 86 2 o (setF nm v (L.take k)).1.length (prs (setF nm v (L.take k)).1)) ∧ Hid (Below w1.heap.size w1 wr)) (fun _ _ i _ => L.length - (intOf i).toNat)
  case atStart => exact ⟨0, rfl, by omega, rfl, Lib.hid (own_nil _ _ _ _), Lib.hid (Below.refl _ _)⟩
  case round =>
    obtain ⟨k, rfl, hk, rfl, ho, hB⟩ := hrel
    have hBw := hB.out.size
    have hDl := setF_len nm v (L.take k) ([], false)
    rw [List.length_take] at hDl
    change (setF nm v (L.take k)).1.length ≤ 0 + _ at hDl
    by_cases hlt : k < L.length
    · obtain ⟨A', cap', e', -, -, r'⟩ := hR.out.below hB.out
      cases e'
      obtain ⟨b1, o1, rfl, _, x1⟩ := r' (by omega)
      have d1 : wr.cell? ⟨b1, o1 + k * 2, none⟩ = some (.string (str L[k].1)) := x1 _ _ (prs_at0 hlt)
      have d2 : wr.cell? ⟨b1, o1 + k * 2 + 1, none⟩ = some (.string (str L[k].2)) := x1 _ _ (prs_at1 hlt)
      have hsh := hs.out L[k] (List.getElem_mem hlt)
      have htk := setF_take (nm := nm) (v := v) hlt
      clear x1 r'
      generalize L[k] = p at *
      obtain ⟨n, vv⟩ := p
      generalize setF nm v (L.take k) = st at *
      obtain ⟨D, dn⟩ := st
      simp only at d1 d2 hsh htk hDl ho
      have hL2 : ∀ w, Calls Tryd.prog 64 #[.string (str n)] w fun e w' => e = .returned (.string (str (Syn.lower n))) ∧ Below w.heap.size w w' := fun w => flower_any (str n) w (by rw [str_size]; omega)
      replace hL2 := Lib.hid hL2
      have hnew := Lib.hid (Blk.new wr 86 #[.string (str n), .string (str vv)])
      replace hsh := Lib.hid hsh
      have hDl2 : D.length ≤ 1000 := by omega
      clear hDl
      go_wp2_with fail
      refine (hL2.out _).mono ?_
      rintro e w2 ⟨rfl, hb2⟩
      have hK2 := hnew.out.below hb2
      have hbB : Below w1.heap.size w1 w2 := (hB.out.alloc hBw _).trans (hb2.mono (by rw [alloc_size']; omega))
      have ho2 := Lib.hid (own_below (own_below ho.out ((Below.refl _ _).alloc (Nat.le_refl _) _)) hb2)
      have hB2 := Lib.hid hbB
      have hBw2 := hbB.size
      have c0 : w2.cell? ⟨wr.heap.size, 0, none⟩ = some (.string (str n)) := hK2.cell 0
      have c1 : w2.cell? ⟨wr.heap.size, 1, none⟩ = some (.string (str vv)) := hK2.cell 1
      clear hb2 hK2 hbB d1 d2
      by_cases he : Syn.lower n = nm
      · have hq : ((str (Syn.lower n)).toList == (str nm).toList) = true := str_eq he
        rw [show stp nm v (D, dn) (n, vv) = if dn = true then (D, dn) else (D ++ [(nm, v)], true) from if_pos he] at htk
        replace he := Lib.hid he
        cases dn with
        | true =>
          rw [if_pos rfl] at htk
          replace htk := Lib.hid htk
          go_wp2
          go_roundw
          case rel => exact ⟨k + 1, by go_num, by omega, by rw [htk.out], Lib.hid (by rw [htk.out]; exact ho2.out), hB2⟩
          case measure => simp [intOf]; omega
        | false =>
          rw [if_neg (by decide)] at htk
          have hpr := Lib.hid (prs_snoc D (nm, v))
          replace htk := Lib.hid htk
          go_wp2_with (at_builtin; refine push_pair 33 86 Tryd.underlying33 infoCF _ _ rfl rfl rfl ho2.out rfl rfl rfl (by omega) hBw2 ?_; intro v3 w3 ho3 hb3; replace ho3 := Lib.hid ho3; have hB3 := Lib.hid (hB2.out.trans hb3); clear hb3)
          go_roundw
          case rel => exact ⟨k + 1, by go_num, by omega, by rw [htk.out], Lib.hid (by rw [htk.out]; simp only [hpr.out, List.length_append]; exact ho3.out), hB3⟩
          case measure => simp [intOf]; omega
      · have hq : ((str (Syn.lower n)).toList == (str nm).toList) = false := str_ne he
        rw [show stp nm v (D, dn) (n, vv) = (D ++ [(n, vv)], dn) from if_neg he] at htk
        have hpr := Lib.hid (prs_snoc D (n, vv))
        replace he := Lib.hid he
        replace htk := Lib.hid htk
        go_wp2_with (at_builtin; refine push_pair 33 86 Tryd.underlying33 infoCF _ _ rfl rfl rfl ho2.out rfl rfl rfl (by omega) hBw2 ?_; intro v3 w3 ho3 hb3; replace ho3 := Lib.hid ho3; have hB3 := Lib.hid (hB2.out.trans hb3); clear hb3)
        go_roundw
        case rel => exact ⟨k + 1, by go_num, by omega, by rw [htk.out], Lib.hid (by rw [htk.out]; simp only [hpr.out, List.length_append]; exact ho3.out), hB3⟩
        case measure => simp [intOf]; omega
    · obtain rfl : k = L.length := by omega
      rw [List.take_length] at *
      have hSV : setV nm v L = if (setF nm v L).2 = true then (setF nm v L).1 else (setF nm v L).1 ++ [(nm, v)] := rfl
      generalize setF nm v L = st at *
      obtain ⟨D, dn⟩ := st
      simp only at hSV hDl ho
      have hDl2 : D.length ≤ 1000 := by omega
      clear hDl
      cases dn with
      | true =>
        rw [if_pos rfl] at hSV
        replace hSV := Lib.hid hSV
        go_wp2
        go_ret
        exact ⟨_, rfl, by rw [hSV.out]; exact own_mono ho.out hb1.out.size, Below.next hb1.out hb1.out.size hB.out⟩
      | false =>
        rw [if_neg (by decide)] at hSV
        have hpr := Lib.hid (prs_snoc D (nm, v))
        replace hSV := Lib.hid hSV
        go_wp2_with (at_builtin; refine push_pair 33 86 Tryd.underlying33 infoCF _ _ rfl rfl rfl ho.out rfl rfl rfl (by omega) hBw ?_; intro v3 w3 ho3 hb3; replace ho3 := Lib.hid ho3; have hB3 := Lib.hid (hB.out.trans hb3); clear hb3)
        go_ret
        exact ⟨_, rfl, by rw [hSV.out, hpr.out, List.length_append]; exact own_mono ho3.out hb1.out.size, Below.next hb1.out hb1.out.size hB3.out⟩
end Go.Proofs.YtemlnmelicnneaaDoor
