/-
  The values of a name, the code's and the document's.
-/
import Derived.Test.YtemlnmelicnneaaDoorFSpec
import Derived.Test.YtemlnmelicnneaaDoorGLow
namespace Go.Proofs.YtemlnmelicnneaaDoor
open Go.RowKit Syn Fr

theorem str_eq_dec (a b : List UInt8) : ((str a).toList == (str b).toList) = decide (a = b) := by
  by_cases h : a = b
  · rw [str_eq h, decide_eq_true h]
  · rw [str_ne h, decide_eq_false h]
set_option maxRecDepth 100000 in
set_option maxHeartbeats 4000000 in
theorem all_any (L : List (List UInt8 × List UInt8)) (name : Bytes) (v : Value) (w : World) (hs : ∀ p ∈ L, p.1.length ≤ 1000000 ∧ p.2.length ≤ 1000000) (hlen : L.length ≤ 1000) (hn : name.length ≤ 1000) (hR : Rd w 2 v L.length (prs L)) :
    Calls Tryd.prog 53 #[v, .string (str name)] w fun e w' => ∃ o, e = .returned o ∧ Own w' w.heap.size 9 1 o (allV L name).length (strs (allV L name)) ∧ Below w.heap.size w w' := by
  obtain ⟨A, cap, rfl, hcap, -, -⟩ := id hR
  replace hs := Lib.hid hs
  have hL : ∀ w, Calls Tryd.prog 64 #[.string (str name)] w fun e w' => e = .returned (.string (str (Syn.lower name))) ∧ Below w.heap.size w w' := fun w => flower_any (str name) w (by rw [str_size]; omega)
  replace hL := Lib.hid hL
  go_enter Tryd.func53, Tryd.ntmps53
  go_wp2_with fail
  refine (hL.out _).mono ?_
  rintro e w1 ⟨rfl, hb1⟩
  replace hR := Lib.hid (hR.below hb1)
  replace hb1 := Lib.hid hb1
  go_wp2
  go_loopw [5, 12] (fun o i wr => ∃ k : Nat, i = .int .i64 (k : Int) ∧ k ≤ L.length ∧ Hid (Own wr w1.heap.size 9 1 o (allV (L.take k) name).length (strs (allV (L.take k) name))) ∧ Hid (Below w1.heap.size w1 wr)) (fun _ i _ => L.length - (intOf i).toNat)
  case atStart => exact ⟨0, rfl, by omega, own_nil _ _ _ _, Below.refl _ _⟩
  case round =>
    obtain ⟨k, rfl, hk, ho, hB⟩ := hrel
    have hBw := hB.out.size
    by_cases hlt : k < L.length
    · obtain ⟨A', cap', e', -, -, r'⟩ := hR.out.below hB.out
      cases e'
      obtain ⟨b1, o1, rfl, _, x1⟩ := r' (by omega)
      have d1 : wr.cell? ⟨b1, o1 + k * 2, none⟩ = some (.string (str L[k].1)) := x1 _ _ (prs_at0 hlt)
      have d2 : wr.cell? ⟨b1, o1 + k * 2 + 1, none⟩ = some (.string (str L[k].2)) := x1 _ _ (prs_at1 hlt)
      have hsh := hs.out L[k] (List.getElem_mem hlt)
      have htk := Lib.hid (allV_take hlt name)
      have hal := allV_length (L.take k) name
      rw [List.length_take] at hal
      clear x1 r'
      generalize L[k] = p at *
      obtain ⟨n, vv⟩ := p
      simp only at d1 d2 hsh htk
      have hL2 : ∀ w, Calls Tryd.prog 64 #[.string (str n)] w fun e w' => e = .returned (.string (str (Syn.lower n))) ∧ Below w.heap.size w w' := fun w => flower_any (str n) w (by rw [str_size]; omega)
      replace hL2 := Lib.hid hL2
      have hnew := Lib.hid (Blk.new wr 86 #[.string (str n), .string (str vv)])
      replace hsh := Lib.hid hsh
      go_wp2_with fail
      refine (hL2.out _).mono ?_
      rintro e w2 ⟨rfl, hb2⟩
      have hK2 := hnew.out.below hb2
      have hbB : Below w1.heap.size w1 w2 := (hB.out.alloc hBw _).trans (hb2.mono (by rw [alloc_size']; omega))
      have ho2 := Lib.hid (own_below (own_below ho.out ((Below.refl _ _).alloc (Nat.le_refl _) _)) hb2)
      have hB2 := Lib.hid hbB
      have hBw2 := hbB.size
      have c1 : w2.cell? ⟨wr.heap.size, 1, none⟩ = some (.string (str vv)) := hK2.cell 1
      clear hb2 hK2 hbB d1 d2
      by_cases he : Syn.lower n = Syn.lower name
      · have hq : ((str (Syn.lower n)).toList == (str (Syn.lower name)).toList) = true := str_eq he
        rw [if_pos he] at htk
        replace he := Lib.hid he
        go_wp2_with (at_builtin; refine push_str _ _ rfl rfl rfl ho2.out rfl rfl (by omega) hBw2 ?_; intro v3 w3 ho3 hb3; replace ho3 := Lib.hid ho3; have hB3 := Lib.hid (hB2.out.trans hb3); clear hb3)
        go_roundw
        case rel =>
          refine ⟨k + 1, by go_num, by omega, Lib.hid ?_, hB3⟩
          rw [htk.out, strs_snoc]; simpa using ho3.out
        case measure => simp [intOf]; omega
      · have hq : ((str (Syn.lower n)).toList == (str (Syn.lower name)).toList) = false := str_ne he
        rw [if_neg he, List.append_nil] at htk
        replace he := Lib.hid he
        go_wp2
        go_roundw
        case rel => exact ⟨k + 1, by go_num, by omega, by rw [htk.out]; exact ho2, hB2⟩
        case measure => simp [intOf]; omega
    · obtain rfl : k = L.length := by omega
      rw [List.take_length] at ho
      go_wp2
      go_ret
      exact ⟨_, rfl, own_mono ho.out hb1.out.size, Below.next hb1.out hb1.out.size hB.out⟩
theorem of_any (n vv name : Bytes) (w : World) (h1 : n.length ≤ 1000000) (h2 : name.length ≤ 1000) :
    Calls Tryd.prog 56 #[.agg #[.string (str n), .string (str vv)], .string (str name)] w fun e w' => e = .returned (.bool (decide (Syn.lower n = Syn.lower name))) ∧ Below w.heap.size w w' := by
  have hL1 : ∀ w, Calls Tryd.prog 25 #[.string (str n)] w fun e w' => e = .returned (.string (str (Syn.lower n))) ∧ Below w.heap.size w w' := fun w => rlower_any (str n) w (by rw [str_size]; omega)
  have hL2 : ∀ w, Calls Tryd.prog 25 #[.string (str name)] w fun e w' => e = .returned (.string (str (Syn.lower name))) ∧ Below w.heap.size w w' := fun w => rlower_any (str name) w (by rw [str_size]; omega)
  have hq := str_eq_dec (Syn.lower n) (Syn.lower name)
  replace hL1 := Lib.hid hL1
  replace hL2 := Lib.hid hL2
  go_enter Tryd.func56, Tryd.ntmps56
  go_wp2_with fail
  refine (hL1.out _).mono ?_
  rintro e w1 ⟨rfl, hb1⟩
  replace hb1 := Lib.hid hb1
  go_wp2_with fail
  refine (hL2.out _).mono ?_
  rintro e w2 ⟨rfl, hb2⟩
  have hb3 := Lib.hid (((Below.refl w.heap.size w).alloc (Nat.le_refl _) _).trans (hb1.out.mono (by rw [alloc_size']; omega)))
  have hB := Lib.hid (Below.next hb3.out hb3.out.size hb2)
  clear hb2
  go_wp2
  go_ret
  exact ⟨by rw [← hq]; rfl, hB.out⟩
end Go.Proofs.YtemlnmelicnneaaDoor
