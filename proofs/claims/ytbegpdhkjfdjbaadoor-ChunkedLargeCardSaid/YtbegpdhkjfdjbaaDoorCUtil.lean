/-
  Layer 7: what the laws compare with.
-/
import Derived.Test.YtbegpdhkjfdjbaaDoorCAwake
import Derived.Test.YtbegpdhkjfdjbaaDoorCIn
namespace Go.Proofs.YtbegpdhkjfdjbaaDoor
open Go.RowKit Syn Ck

theorem infoR2b : (Tryd.prog.info? 63).map (fun i => (i.zero, i.size, i.bytes)) = some (some (.agg #[.string ⟨#[]⟩, .string ⟨#[]⟩]), 2, 32) := by kernel_rfl
set_option maxHeartbeats 1000000 in
theorem bytes_any {v1 v2 : Value} {l1 l2 : List UInt8} {B B' : Nat} (w : World) (h1 : Own w B 5 1 v1 l1.length (u8s l1)) (h2 : Own w B' 5 1 v2 l2.length (u8s l2)) :
    Calls Tryd.prog 15 #[v1, v2] w fun e w' => e = .returned (.bool (decide (l1 = l2))) ∧ w' = w := by
  have r1 := run_own_str h1
  have r2 := run_own_str h2
  have q : ((str l1).toList == (str l2).toList) = decide (l1 = l2) := by
    by_cases h : l1 = l2
    · rw [str_eq h, decide_eq_true h]
    · rw [str_ne h, decide_eq_false h]
  obtain ⟨A1, c1, rfl, -⟩ := Rd.own h1
  obtain ⟨A2, c2, rfl, -⟩ := Rd.own h2
  clear h1 h2
  generalize str l1 = s1 at *
  generalize str l2 = s2 at *
  generalize decide (l1 = l2) = b at *
  go_enter Tryd.func15, Tryd.ntmps15
  go_wp2
  go_ret
  exact ⟨rfl, rfl⟩
theorem flat_take {ps : List (List UInt8)} {k : Nat} (h : k < ps.length) : (ps.take (k + 1)).flatten = (ps.take k).flatten ++ ps[k] := by
  rw [List.take_succ_eq_append_getElem h, List.flatten_append]; simp
theorem flat_bound {ps : List (List UInt8)} {M : Nat} (h : ∀ p ∈ ps, p.length ≤ M) : ps.flatten.length ≤ ps.length * M := by
  induction ps with
  | nil => simp
  | cons a r ih =>
    have h1 := ih (fun p hp => h p (by simp [hp]))
    have h2 := h a (by simp)
    rw [List.flatten_cons, List.length_append, List.length_cons, Nat.add_mul]; omega
theorem flat_take_le (ps : List (List UInt8)) (k : Nat) : (ps.take k).flatten.length ≤ ps.flatten.length := by
  conv => rhs; rw [← List.take_append_drop k ps]
  rw [List.flatten_append, List.length_append]; omega
set_option maxHeartbeats 2000000 in
theorem sum_any (ps : List (List UInt8)) (v : Value) (w : World) (hP : Parts w v ps) (hs : ∀ p ∈ ps, p.length ≤ 140737488355328) (hm : ps.length ≤ 100) :
    Calls Tryd.prog 31 #[v] w fun e w' => e = .returned (.int .i64 (ps.flatten.length : Int)) ∧ w' = w := by
  obtain ⟨A, cap, rfl, hcap, hr⟩ := hP
  have hbd := fun k => Nat.le_trans (flat_take_le ps k) (Nat.le_trans (flat_bound hs) (Nat.mul_le_mul_right _ hm))
  replace hbd := Lib.hid hbd
  replace hs := Lib.hid hs
  go_enter Tryd.func31, Tryd.ntmps31
  go_wp2
  go_loop [3, 4] (fun n i => ∃ k : Nat, i = .int .i64 (k : Int) ∧ k ≤ ps.length ∧ n = .int .i64 ((ps.take k).flatten.length : Int)) (fun _ i => ps.length - (intOf i).toNat)
  case atStart => exact ⟨0, rfl, by omega, rfl⟩
  case round =>
    obtain ⟨k, rfl, hk, rfl⟩ := hrel
    by_cases hlt : k < ps.length
    · obtain ⟨b, o, rfl, hb, hx⟩ := hr (by omega)
      obtain ⟨Ai, ci, d1, -⟩ := hx k hlt
      have hst : ((ps.take (k + 1)).flatten.length : Int) = ((ps.take k).flatten.length : Int) + (ps[k].length : Int) := by rw [flat_take hlt, List.length_append]; omega
      have hb1 := hbd.out (k + 1)
      rw [flat_take hlt, List.length_append] at hb1
      have hb2 := hbd.out k
      replace hst := Lib.hid hst
      generalize ps[k].length = m at *
      generalize (ps.take k).flatten.length = n1 at *
      have hb3 : n1 + m ≤ 100 * 140737488355328 := by omega
      clear hx hb1
      go_wp2
      go_round
      case rel => exact ⟨k + 1, by go_num, by omega, by rw [hst.out]⟩
      case measure => simp [intOf]; omega
    · obtain rfl : k = ps.length := by omega
      rw [List.take_length]
      go_wp2
      go_ret
      exact ⟨rfl, rfl⟩
namespace Ck
def fitsB (ps : List (List UInt8)) : Bool := decide (ps.length ≤ 100) && decide (ps.flatten.length ≤ 12000)
theorem fitsB_of {ps : List (List UInt8)} (h : fitsB ps = true) : ps.length ≤ 100 ∧ ps.flatten.length ≤ 12000 := by
  unfold fitsB at h
  rw [Bool.and_eq_true, decide_eq_true_eq, decide_eq_true_eq] at h
  exact h
end Ck
set_option maxHeartbeats 2000000 in
theorem fits_any (ps : List (List UInt8)) (v : Value) (w : World) (hP : Parts w v ps) (hs : ∀ p ∈ ps, p.length ≤ 140737488355328) (hmm : ps.length ≤ 140737488355328) :
    Calls Tryd.prog 11 #[v] w fun e w' => e = .returned (.bool (fitsB ps)) ∧ w' = w := by
  obtain ⟨A, cap, rfl, -⟩ := id hP
  unfold fitsB
  by_cases hm : ps.length ≤ 100
  · have hS := Lib.hid (sum_any ps _ w hP hs hm)
    have hbd := Nat.le_trans (flat_bound hs) (Nat.mul_le_mul_right _ hm)
    rw [decide_eq_true hm, Bool.true_and]
    clear hP hs
    by_cases h2 : ps.flatten.length ≤ 12000
    · rw [decide_eq_true h2]
      generalize ps.flatten.length = n at *
      have h3 : decide ((n : Int) ≤ 12000) = true := decide_eq_true (by omega)
      go_enter Tryd.func11, Tryd.ntmps11
      go_wp2_with fail
      refine hS.out.mono ?_
      rintro e w' ⟨rfl, rfl⟩
      go_wp2
      go_ret
      exact ⟨rfl, rfl⟩
    · rw [decide_eq_false h2]
      generalize ps.flatten.length = n at *
      have h3 : decide ((n : Int) ≤ 12000) = false := decide_eq_false (by omega)
      go_enter Tryd.func11, Tryd.ntmps11
      go_wp2_with fail
      refine hS.out.mono ?_
      rintro e w' ⟨rfl, rfl⟩
      go_wp2
      go_ret
      exact ⟨rfl, rfl⟩
  · rw [decide_eq_false hm, Bool.false_and]
    have h3 : decide ((ps.length : Int) ≤ 100) = false := decide_eq_false (by omega)
    clear hP hs
    go_enter Tryd.func11, Tryd.ntmps11
    go_wp2
    go_ret
    exact ⟨rfl, rfl⟩
set_option maxRecDepth 100000 in
set_option maxHeartbeats 4000000 in
theorem fields_any (L : List (List UInt8 × List UInt8)) (v : Value) (w : World) (hl : L.length ≤ 100) (hR : Rd w 2 v L.length (prs L)) :
    Calls Tryd.prog 28 #[v] w fun e w' => ∃ o, e = .returned o ∧ Own w' w.heap.size 64 2 o L.length (prs L) ∧ Below w.heap.size w w' := by
  obtain ⟨A, cap, rfl, hcap, -, -⟩ := id hR
  replace hR := Lib.hid hR
  go_enter Tryd.func28, Tryd.ntmps28
  go_wp2
  go_loopw [3, 8] (fun o i wr => ∃ k : Nat, i = .int .i64 (k : Int) ∧ k ≤ L.length ∧ Hid (Own wr w.heap.size 64 2 o k (prs (L.take k))) ∧ Hid (Below w.heap.size w wr)) (fun _ i _ => L.length - (intOf i).toNat)
  case atStart => exact ⟨0, rfl, by omega, own_nil _ _ _ _, Below.refl _ _⟩
  case round =>
    obtain ⟨k, rfl, hk, ho, hB⟩ := hrel
    have hBw := hB.out.size
    by_cases hlt : k < L.length
    · obtain ⟨A', cap', e', -, -, r'⟩ := hR.out.below hB.out
      cases e'
      obtain ⟨b1, o1, rfl, _, x1⟩ := r' (by omega)
      have d1 : wr.cell? ⟨b1, o1 + k * 2, none⟩ = some (.string (str L[k].1)) := x1 _ _ (prs_at0 hlt)
      have d2 : wr.cell? ⟨b1, o1 + k * 2 + 1, none⟩ = some (.string (str L[k].2)) := x1 _ _ (prs_at1 hlt)
      have htk := Lib.hid (List.take_succ_eq_append_getElem hlt)
      clear x1 r'
      generalize L[k] = p at *
      obtain ⟨n, vv⟩ := p
      simp only at d1 d2
      go_wp2_with (at_builtin; refine push_pair 42 64 Tryd.underlying42 infoCF _ _ rfl rfl rfl (own_below ho.out ((Below.refl _ _).alloc (Nat.le_refl _) _)) (by rw [alloc_size']; rfl) rfl rfl (by omega) (by rw [alloc_size']; omega) ?_; intro v7 w7 ho7 hb7; replace ho7 := Lib.hid ho7; have hB7 := Lib.hid ((hB.out.alloc hBw _).trans hb7); clear hb7)
      go_roundw
      case rel => exact ⟨k + 1, by go_num, by omega, Lib.hid (by rw [htk.out, prs_snoc]; exact ho7.out), hB7⟩
      case measure => simp [intOf]; omega
    · obtain rfl : k = L.length := by omega
      rw [List.take_length] at ho
      go_wp2
      go_ret
      exact ⟨_, rfl, ho.out, hB.out⟩
set_option maxRecDepth 100000 in
set_option maxHeartbeats 4000000 in
theorem refs_any (L : List (List UInt8 × List UInt8)) (v : Value) (w : World) (hl : L.length ≤ 100) (hR : Rd w 2 v L.length (prs L)) :
    Calls Tryd.prog 21 #[v] w fun e w' => ∃ o, e = .returned o ∧ Own w' w.heap.size 63 2 o L.length (prs L) ∧ Below w.heap.size w w' := by
  obtain ⟨A, cap, rfl, hcap, -, -⟩ := id hR
  replace hR := Lib.hid hR
  go_enter Tryd.func21, Tryd.ntmps21
  go_wp2
  go_loopw [3, 8] (fun o i wr => ∃ k : Nat, i = .int .i64 (k : Int) ∧ k ≤ L.length ∧ Hid (Own wr w.heap.size 63 2 o k (prs (L.take k))) ∧ Hid (Below w.heap.size w wr)) (fun _ i _ => L.length - (intOf i).toNat)
  case atStart => exact ⟨0, rfl, by omega, own_nil _ _ _ _, Below.refl _ _⟩
  case round =>
    obtain ⟨k, rfl, hk, ho, hB⟩ := hrel
    have hBw := hB.out.size
    by_cases hlt : k < L.length
    · obtain ⟨A', cap', e', -, -, r'⟩ := hR.out.below hB.out
      cases e'
      obtain ⟨b1, o1, rfl, _, x1⟩ := r' (by omega)
      have d1 : wr.cell? ⟨b1, o1 + k * 2, none⟩ = some (.string (str L[k].1)) := x1 _ _ (prs_at0 hlt)
      have d2 : wr.cell? ⟨b1, o1 + k * 2 + 1, none⟩ = some (.string (str L[k].2)) := x1 _ _ (prs_at1 hlt)
      have htk := Lib.hid (List.take_succ_eq_append_getElem hlt)
      clear x1 r'
      generalize L[k] = p at *
      obtain ⟨n, vv⟩ := p
      simp only at d1 d2
      go_wp2_with (at_builtin; refine push_pair 27 63 Tryd.underlying27 infoR2b _ _ rfl rfl rfl (own_below ho.out ((Below.refl _ _).alloc (Nat.le_refl _) _)) (by rw [alloc_size']; rfl) rfl rfl (by omega) (by rw [alloc_size']; omega) ?_; intro v7 w7 ho7 hb7; replace ho7 := Lib.hid ho7; have hB7 := Lib.hid ((hB.out.alloc hBw _).trans hb7); clear hb7)
      go_roundw
      case rel => exact ⟨k + 1, by go_num, by omega, Lib.hid (by rw [htk.out, prs_snoc]; exact ho7.out), hB7⟩
      case measure => simp [intOf]; omega
    · obtain rfl : k = L.length := by omega
      rw [List.take_length] at ho
      go_wp2
      go_ret
      exact ⟨_, rfl, ho.out, hB.out⟩
set_option maxRecDepth 100000 in
set_option maxHeartbeats 4000000 in
theorem are_any {v1 v2 : Value} {l1 l2 : List (List UInt8 × List UInt8)} (w : World) (h1 : Rd w 2 v1 l1.length (prs l1)) (h2 : Rd w 2 v2 l2.length (prs l2)) (he : l1 = l2) (hm : l1.length ≤ 1000) :
    Calls Tryd.prog 19 #[v1, v2] w fun e w' => e = .returned (.bool true) ∧ ∃ n, w' = w.drewN n := by
  subst he
  obtain ⟨A1, c1, rfl, hc1, -, r1⟩ := h1
  obtain ⟨A2, c2, rfl, hc2, -, r2⟩ := h2
  go_enter Tryd.func19, Tryd.ntmps19
  go_wp2
  go_loopw [5, 13] (fun _ i wr => ∃ k m : Nat, i = .int .i64 k ∧ k ≤ l1.length ∧ wr = w.drewN m) (fun _ i _ => l1.length - (intOf i).toNat)
  case atStart => exact ⟨0, 0, rfl, by omega, rfl⟩
  case round =>
    obtain ⟨k, m, rfl, hk, hw⟩ := hrel
    by_cases hlt : k < l1.length
    · obtain ⟨b1, o1, rfl, _, x1⟩ := r1 (by omega)
      obtain ⟨b2, o2, rfl, _, x2⟩ := r2 (by omega)
      have d1 : wr.cell? ⟨b1, o1 + k * 2, none⟩ = some (.string (str l1[k].1)) := by rw [hw]; exact x1 _ _ (prs_at0 hlt)
      have d2 : wr.cell? ⟨b1, o1 + k * 2 + 1, none⟩ = some (.string (str l1[k].2)) := by rw [hw]; exact x1 _ _ (prs_at1 hlt)
      have d3 : wr.cell? ⟨b2, o2 + k * 2, none⟩ = some (.string (str l1[k].1)) := by rw [hw]; exact x2 _ _ (prs_at0 hlt)
      have d4 : wr.cell? ⟨b2, o2 + k * 2 + 1, none⟩ = some (.string (str l1[k].2)) := by rw [hw]; exact x2 _ _ (prs_at1 hlt)
      have Hw := Lib.hid hw
      have q1 : ((str l1[k].1).toList != (str l1[k].1).toList) = false := bne_self_eq_false _
      have q2 : ((str l1[k].2).toList != (str l1[k].2).toList) = false := bne_self_eq_false _
      clear hw x1 x2
      generalize str l1[k].1 = s1 at *
      generalize str l1[k].2 = s2 at *
      go_wp2_with fail
      go_quiet (fail)
      go_wp2
      go_roundw
      case rel => exact ⟨k + 1, m + nq, by go_num, by omega, by rw [Hw.out, World.drewN_drewN]⟩
      case measure => simp [intOf]; omega
    · obtain rfl : k = l1.length := by omega
      go_wp2
      go_ret
      exact ⟨rfl, m, rfl⟩
end Go.Proofs.YtbegpdhkjfdjbaaDoor
