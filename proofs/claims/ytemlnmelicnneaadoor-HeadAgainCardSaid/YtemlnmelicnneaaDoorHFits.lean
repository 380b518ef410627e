/-
  The law's guard: few fields, none of them long.
-/
import Derived.Test.YtemlnmelicnneaaDoorGLow
namespace Go.Proofs.YtemlnmelicnneaaDoor
open Go.RowKit Syn

def bulk (L : List (List UInt8 × List UInt8)) : Nat := (L.map fun p => p.1.length + p.2.length).sum
theorem bulk_take {L : List (List UInt8 × List UInt8)} {k : Nat} (h : k < L.length) : bulk (L.take (k + 1)) = bulk (L.take k) + (L[k].1.length + L[k].2.length) := by
  unfold bulk; rw [List.take_succ_eq_append_getElem h, List.map_append, List.sum_append]; simp
theorem bulk_mem : ∀ {L : List (List UInt8 × List UInt8)} {p : List UInt8 × List UInt8}, p ∈ L → p.1.length + p.2.length ≤ bulk L
  | q :: L, p, h => by
    have e : bulk (q :: L) = (q.1.length + q.2.length) + bulk L := by simp [bulk]
    rw [e]
    rcases List.mem_cons.1 h with rfl | h
    · omega
    · have := bulk_mem h; omega
set_option maxRecDepth 100000 in
set_option maxHeartbeats 4000000 in
theorem hfits_any (L : List (List UInt8 × List UInt8)) (v : Value) (w : World) (hR : Rd w 2 v L.length (prs L)) (hbig : ∀ p ∈ L, p.1.length ≤ 140737488355328 ∧ p.2.length ≤ 140737488355328) (hlm : L.length ≤ 140737488355328) :
    Calls Tryd.prog 10 #[v] w fun e w' => ∃ b, e = .returned (.bool b) ∧ (b = true → L.length ≤ 80 ∧ bulk L ≤ 20000) ∧ ∃ n, w' = w.drewN n := by
  obtain ⟨A, cap, rfl, hcap, -, -⟩ := id hR
  replace hbig := Lib.hid hbig
  by_cases h80 : L.length ≤ 80
  · have hd : decide ((L.length : Int) ≤ 80) = true := by rw [decide_eq_true_iff]; omega
    replace hR := Lib.hid hR
    go_enter Tryd.func10, Tryd.ntmps10
    go_wp2
    go_loopw [3, 4] (fun n i wr => ∃ k s m : Nat, i = .int .i64 (k : Int) ∧ n = .int .i64 (s : Int) ∧ k ≤ L.length ∧ s ≤ 281474976710656 * k ∧ Hid (s = bulk (L.take k)) ∧ wr = w.drewN m) (fun _ i _ => L.length - (intOf i).toNat)
    case atStart => exact ⟨0, 0, 0, rfl, rfl, by omega, by omega, rfl, rfl⟩
    case round =>
      obtain ⟨k, s, m, rfl, rfl, hk, hsk, hs, hw⟩ := hrel
      by_cases hlt : k < L.length
      · have hR' := hR.out
        obtain ⟨A', cap', e', -, -, r'⟩ := hR'
        cases e'
        obtain ⟨b1, o1, rfl, _, x1⟩ := r' (by omega)
        have d1 : wr.cell? ⟨b1, o1 + k * 2, none⟩ = some (.string (str L[k].1)) := by rw [hw]; exact x1 _ _ (prs_at0 hlt)
        have d2 : wr.cell? ⟨b1, o1 + k * 2 + 1, none⟩ = some (.string (str L[k].2)) := by rw [hw]; exact x1 _ _ (prs_at1 hlt)
        have hbg := hbig.out L[k] (List.getElem_mem hlt)
        have hbt := bulk_take hlt
        replace hw := Lib.hid hw
        clear x1 r'
        generalize L[k] = p at *
        obtain ⟨n, vv⟩ := p
        simp only at d1 d2 hbg hbt
        have hz1 := str_size n
        have hz2 := str_size vv
        replace hbt := Lib.hid hbt
        go_wp2_with fail
        go_quiet (fail)
        go_wp2
        go_roundw
        case rel => exact ⟨k + 1, s + (n.length + vv.length), m + nq, by go_num, by go_num, by omega, by omega, Lib.hid (by rw [hbt.out, hs.out]), by rw [hw.out, World.drewN_drewN]⟩
        case measure => simp [intOf]; omega
      · obtain rfl : k = L.length := by omega
        have hs2 := hs.out
        rw [List.take_length] at hs2
        by_cases h4 : s ≤ 20000
        · have hd2 : decide ((s : Int) ≤ 20000) = true := by rw [decide_eq_true_iff]; omega
          have hfew := Lib.hid (show L.length ≤ 80 ∧ bulk L ≤ 20000 from ⟨h80, by rw [← hs2]; exact h4⟩)
          clear hs2
          go_wp2
          go_ret
          exact ⟨_, rfl, (fun _ => hfew.out), m, rfl⟩
        · have hd2 : decide ((s : Int) ≤ 20000) = false := by rw [decide_eq_false_iff_not]; omega
          clear hs2
          go_wp2
          go_ret
          exact ⟨false, rfl, (fun h => by cases h), m, rfl⟩
  · have hd : decide ((L.length : Int) ≤ 80) = false := by rw [decide_eq_false_iff_not]; omega
    replace hR := Lib.hid hR
    go_enter Tryd.func10, Tryd.ntmps10
    go_wp2
    go_loopw [3, 4] (fun n i wr => ∃ (k m : Nat) (z : Int), i = .int .i64 (k : Int) ∧ n = .int .i64 z ∧ k ≤ L.length ∧ wr = w.drewN m) (fun _ i _ => L.length - (intOf i).toNat)
    case atStart => exact ⟨0, 0, 0, rfl, rfl, by omega, rfl⟩
    case round =>
      obtain ⟨k, m, z, rfl, rfl, hk, hw⟩ := hrel
      by_cases hlt : k < L.length
      · have hR' := hR.out
        obtain ⟨A', cap', e', -, -, r'⟩ := hR'
        cases e'
        obtain ⟨b1, o1, rfl, _, x1⟩ := r' (by omega)
        have d1 : wr.cell? ⟨b1, o1 + k * 2, none⟩ = some (.string (str L[k].1)) := by rw [hw]; exact x1 _ _ (prs_at0 hlt)
        have d2 : wr.cell? ⟨b1, o1 + k * 2 + 1, none⟩ = some (.string (str L[k].2)) := by rw [hw]; exact x1 _ _ (prs_at1 hlt)
        have hbg := hbig.out L[k] (List.getElem_mem hlt)
        replace hw := Lib.hid hw
        clear x1 r'
        generalize L[k] = p at *
        obtain ⟨n, vv⟩ := p
        simp only at d1 d2 hbg
        have hz1 := str_size n
        have hz2 := str_size vv
        go_wp2_with fail
        go_quiet (fail)
        go_wp2
        go_roundw
        case rel => exact ⟨k + 1, m + nq, _, by go_num, rfl, by omega, by rw [hw.out, World.drewN_drewN]⟩
        case measure => simp [intOf]; omega
      · go_wp2
        go_ret
        exact ⟨false, rfl, (fun h => by cases h), m, rfl⟩
end Go.Proofs.YtemlnmelicnneaaDoor
