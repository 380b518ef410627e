/-
  Lists of fields: the program's and the document's.
-/
import Derived.Test.YtemlnmelicnneaaDoorPairs
import Derived.Deep.QuietTactic
import Derived.BigQuiet
namespace Go.Proofs.YtemlnmelicnneaaDoor
open Go.RowKit Syn

theorem infoCF : (Tryd.prog.info? 86).map (fun i => (i.zero, i.size, i.bytes)) = some (some (.agg #[.string ⟨#[]⟩, .string ⟨#[]⟩]), 2, 32) := by kernel_rfl
theorem infoR2b : (Tryd.prog.info? 62).map (fun i => (i.zero, i.size, i.bytes)) = some (some (.agg #[.string ⟨#[]⟩, .string ⟨#[]⟩]), 2, 32) := by kernel_rfl
set_option maxRecDepth 100000 in
set_option maxHeartbeats 4000000 in
theorem fields_any (L : List (List UInt8 × List UInt8)) (v : Value) (w : World) (hl : L.length ≤ 100) (hR : Rd w 2 v L.length (prs L)) :
    Calls Tryd.prog 31 #[v] w fun e w' => ∃ o, e = .returned o ∧ Own w' w.heap.size 86 2 o L.length (prs L) ∧ Below w.heap.size w w' := by
  obtain ⟨A, cap, rfl, hcap, -, -⟩ := id hR
  replace hR := Lib.hid hR
  go_enter Tryd.func31, Tryd.ntmps31
  go_wp2
  go_loopw [3, 8] (fun o i wr => ∃ k : Nat, i = .int .i64 (k : Int) ∧ k ≤ L.length ∧ Hid (Own wr w.heap.size 86 2 o k (prs (L.take k))) ∧ Hid (Below w.heap.size w wr)) (fun _ i _ => L.length - (intOf i).toNat)
  case atStart => exact ⟨0, rfl, by omega, own_nil _ _ _ _, Below.refl _ _⟩
  case round =>
    obtain ⟨k, rfl, hk, ho, hB⟩ := hrel
    have hBw := hB.out.size
    by_cases hlt : k < L.length
    · obtain ⟨A', cap', e', -, -, r'⟩ := hR.out.below hB.out
      cases e'
      obtain ⟨b1, o1, rfl, _, x1⟩ := r' (by omega)
      have d1 : wr.cell? ⟨b1, o1 + k * 2, none⟩ = some (.string (str L[k].1)) := x1 _ _ (prs_at0 hlt)
      have d2 : wr.cell? ⟨b1, o1 + k * 2 + 1, none⟩ = some (.string (str L[k].2)) := x1 _ _ (prs_at1 hlt)
      have htk := Lib.hid (List.take_succ_eq_append_getElem hlt)
      clear x1 r'
      generalize L[k] = p at *
      obtain ⟨n, vv⟩ := p
      simp only at d1 d2
      go_wp2_with (at_builtin; refine push_pair 33 86 Tryd.underlying33 infoCF _ _ rfl rfl rfl (own_below ho.out ((Below.refl _ _).alloc (Nat.le_refl _) _)) (by rw [alloc_size']; rfl) rfl rfl (by omega) (by rw [alloc_size']; omega) ?_; intro v7 w7 ho7 hb7; replace ho7 := Lib.hid ho7; have hB7 := Lib.hid ((hB.out.alloc hBw _).trans hb7); clear hb7)
      go_roundw
      case rel => exact ⟨k + 1, by go_num, by omega, Lib.hid (by rw [htk.out, prs_snoc]; exact ho7.out), hB7⟩
      case measure => simp [intOf]; omega
    · obtain rfl : k = L.length := by omega
      rw [List.take_length] at ho
      go_wp2
      go_ret
      exact ⟨_, rfl, ho.out, hB.out⟩
set_option maxRecDepth 100000 in
set_option maxHeartbeats 4000000 in
theorem refs_any (L : List (List UInt8 × List UInt8)) (v : Value) (w : World) (hl : L.length ≤ 100) (hR : Rd w 2 v L.length (prs L)) :
    Calls Tryd.prog 26 #[v] w fun e w' => ∃ o, e = .returned o ∧ Own w' w.heap.size 62 2 o L.length (prs L) ∧ Below w.heap.size w w' := by
  obtain ⟨A, cap, rfl, hcap, -, -⟩ := id hR
  replace hR := Lib.hid hR
  go_enter Tryd.func26, Tryd.ntmps26
  go_wp2
  go_loopw [3, 8] (fun o i wr => ∃ k : Nat, i = .int .i64 (k : Int) ∧ k ≤ L.length ∧ Hid (Own wr w.heap.size 62 2 o k (prs (L.take k))) ∧ Hid (Below w.heap.size w wr)) (fun _ i _ => L.length - (intOf i).toNat)
  case atStart => exact ⟨0, rfl, by omega, own_nil _ _ _ _, Below.refl _ _⟩
  case round =>
    obtain ⟨k, rfl, hk, ho, hB⟩ := hrel
    have hBw := hB.out.size
    by_cases hlt : k < L.length
    · obtain ⟨A', cap', e', -, -, r'⟩ := hR.out.below hB.out
      cases e'
      obtain ⟨b1, o1, rfl, _, x1⟩ := r' (by omega)
      have d1 : wr.cell? ⟨b1, o1 + k * 2, none⟩ = some (.string (str L[k].1)) := x1 _ _ (prs_at0 hlt)
      have d2 : wr.cell? ⟨b1, o1 + k * 2 + 1, none⟩ = some (.string (str L[k].2)) := x1 _ _ (prs_at1 hlt)
      have htk := Lib.hid (List.take_succ_eq_append_getElem hlt)
      clear x1 r'
      generalize L[k] = p at *
      obtain ⟨n, vv⟩ := p
      simp only at d1 d2
      go_wp2_with (at_builtin; refine push_pair 22 62 Tryd.underlying22 infoR2b _ _ rfl rfl rfl (own_below ho.out ((Below.refl _ _).alloc (Nat.le_refl _) _)) (by rw [alloc_size']; rfl) rfl rfl (by omega) (by rw [alloc_size']; omega) ?_; intro v7 w7 ho7 hb7; replace ho7 := Lib.hid ho7; have hB7 := Lib.hid ((hB.out.alloc hBw _).trans hb7); clear hb7)
      go_roundw
      case rel => exact ⟨k + 1, by go_num, by omega, Lib.hid (by rw [htk.out, prs_snoc]; exact ho7.out), hB7⟩
      case measure => simp [intOf]; omega
    · obtain rfl : k = L.length := by omega
      rw [List.take_length] at ho
      go_wp2
      go_ret
      exact ⟨_, rfl, ho.out, hB.out⟩
set_option maxRecDepth 100000 in
set_option maxHeartbeats 4000000 in
theorem are_any {v1 v2 : Value} {l1 l2 : List (List UInt8 × List UInt8)} (w : World) (h1 : Rd w 2 v1 l1.length (prs l1)) (h2 : Rd w 2 v2 l2.length (prs l2)) (he : l1 = l2) (hm : l1.length ≤ 1000) :
    Calls Tryd.prog 21 #[v1, v2] w fun e w' => e = .returned (.bool true) ∧ ∃ n, w' = w.drewN n := by
  subst he
  obtain ⟨A1, c1, rfl, hc1, -, r1⟩ := h1
  obtain ⟨A2, c2, rfl, hc2, -, r2⟩ := h2
  go_enter Tryd.func21, Tryd.ntmps21
  go_wp2
  go_loopw [5, 13] (fun _ i wr => ∃ k m : Nat, i = .int .i64 k ∧ k ≤ l1.length ∧ wr = w.drewN m) (fun _ i _ => l1.length - (intOf i).toNat)
  case atStart => exact ⟨0, 0, rfl, by omega, rfl⟩
  case round =>
    obtain ⟨k, m, rfl, hk, hw⟩ := hrel
    by_cases hlt : k < l1.length
    · obtain ⟨b1, o1, rfl, _, x1⟩ := r1 (by omega)
      obtain ⟨b2, o2, rfl, _, x2⟩ := r2 (by omega)
      have d1 : wr.cell? ⟨b1, o1 + k * 2, none⟩ = some (.string (str l1[k].1)) := by rw [hw]; exact x1 _ _ (prs_at0 hlt)
      have d2 : wr.cell? ⟨b1, o1 + k * 2 + 1, none⟩ = some (.string (str l1[k].2)) := by rw [hw]; exact x1 _ _ (prs_at1 hlt)
      have d3 : wr.cell? ⟨b2, o2 + k * 2, none⟩ = some (.string (str l1[k].1)) := by rw [hw]; exact x2 _ _ (prs_at0 hlt)
      have d4 : wr.cell? ⟨b2, o2 + k * 2 + 1, none⟩ = some (.string (str l1[k].2)) := by rw [hw]; exact x2 _ _ (prs_at1 hlt)
      have Hw := Lib.hid hw
      have q1 : ((str l1[k].1).toList != (str l1[k].1).toList) = false := bne_self_eq_false _
      have q2 : ((str l1[k].2).toList != (str l1[k].2).toList) = false := bne_self_eq_false _
      clear hw x1 x2
      generalize str l1[k].1 = s1 at *
      generalize str l1[k].2 = s2 at *
      go_wp2_with fail
      go_quiet (fail)
      go_wp2
      go_roundw
      case rel => exact ⟨k + 1, m + nq, by go_num, by omega, by rw [Hw.out, World.drewN_drewN]⟩
      case measure => simp [intOf]; omega
    · obtain rfl : k = l1.length := by omega
      go_wp2
      go_ret
      exact ⟨rfl, m, rfl⟩
end Go.Proofs.YtemlnmelicnneaaDoor
