/-
  Layer 31, the document: Owners.
-/
import Derived.Test.YtjjbeahdoblacaaRgRefL
import Derived.Test.YtjjbeahdoblacaaRgOwn
import Derived.Test.YtjjbeahdoblacaaRgUse
namespace Go.Proofs.Ytjjbeahdoblacaa
open Go.Shelf Go.RowKit Go.Lib Go.Sort Rg
attribute [local go_sem ↓] Go.wp_at_zero Go.wp_at_succ
namespace Rg
theorem fold_len : ∀ (l o : List Nm), (l.foldl dstep o).length ≤ o.length + l.length
  | [], _ => Nat.le_refl _
  | x :: r, o => by
    refine Nat.le_trans (fold_len r (dstep o x)) ?_
    have : (dstep o x).length ≤ o.length + 1 := by unfold dstep; split <;> simp
    rw [List.length_cons]; omega
theorem ddp_len (l : List Nm) : (ddp l).length ≤ l.length := by have := fold_len l []; simpa [ddp] using this
theorem take_mem {O : List Nm} {k : Nat} (h : k < O.length) (x : Nm) : decide (x ∈ O.take (k + 1)) = (decide (x ∈ O.take k) || decide (O[k] = x)) := by
  rw [List.take_succ_eq_append_getElem h, ← Bool.decide_or]
  congr 1
  rw [List.mem_append, List.mem_singleton]
  exact propext (or_congr Iff.rfl eq_comm)
end Rg
set_option maxRecDepth 100000 in
set_option maxHeartbeats 16000000 in
theorem owners_ref (w : World) (lv : Value) (L : List Nd) (key : Nm) (hR : Rd w 2 lv L.length (nvs L)) (hg : Rg.Good L) (hnm : ∀ y ∈ L, y.1.length ≤ 100000) (hL : L.length ≤ 100) (hkey : key.length ≤ maxLen) :
    Calls Try.prog 12 #[lv, .string (str key)] w fun e w' => ∃ o, e = .returned o ∧ Own w' w.heap.size 9 1 o L.length (strs (own (ptsOf L) (Sk.hash 255 key))) ∧ Below w.heap.size w w' := by
  obtain ⟨A, cap, rfl, hcap, -, -⟩ := id hR
  have hpt := points_ref w _ L hR hg hnm hL
  have hh : ∀ w, Calls Try.prog 26 #[.int .u64 255, .string (str key)] w fun e w' => e = .returned (.int .u64 (Sk.hash 255 key)) ∧ w = w' := fun w => hash2_any 255 (str key) w (by rw [str_size]; exact hkey)
  have hol := hg.own_len (Sk.hash 255 key)
  have hpl := hg.plen
  have hs := srt_srt (allPts L)
  replace hs : Srt (ptsOf L) := hs
  have HH := Lib.hid hh
  clear hh hR hg hnm hkey
  generalize Sk.hash 255 key = a at *
  generalize ptsOf L = Q at *
  have Hol := Lib.hid hol
  clear hol
  go_enter Try.func12, Try.ntmps12
  go_wp2_with fail
  refine hpt.mono ?_
  rintro e w1 ⟨o1, rfl, ho1, hb1⟩
  have HQ := Lib.hid (Rd.own ho1)
  have hB1 := Lib.hid hb1
  have hz1 := hb1.size
  obtain ⟨A1, c1, rfl, hc1, -, -⟩ := Rd.own ho1
  clear ho1 hpt hb1
  go_wp2_with fail
  refine (HH.out _).mono ?_
  rintro e w2 ⟨rfl, rfl⟩
  have hbl : below Q a ≤ Q.length := List.length_filter_le _ _
  have hbi := Lib.hid (fun i (hi : i < Q.length) => below_iff hs (h := a) hi)
  have hs' := Lib.hid hs
  clear hs
  obtain ⟨bl, hbq⟩ : ∃ bl, below Q a = bl := ⟨_, rfl⟩
  rw [hbq] at hbl hbi
  have HBQ := Lib.hid hbq
  clear hbq HH
  go_wp2_with fail
  go_loopw [7] (fun i wr => ∃ k : Nat, i = .int .i64 (k : Int) ∧ k ≤ bl ∧ Hid (Below w1.heap.size w1 wr)) (fun i _ => bl - (intOf i).toNat)
  case atStart => exact ⟨0, rfl, by omega, Below.refl _ _⟩
  case round =>
    obtain ⟨k, rfl, hk, hB2⟩ := hrel
    obtain ⟨wa, rfl⟩ : ∃ wa, wa = wr := ⟨_, rfl⟩
    go_upto_region 4 with fail
    go_cut [29] from 17 to 29 (fun c29 wx => c29 = .bool (decide (k < bl)) ∧ wx = wa)
    case first =>
      by_cases hlt : k < Q.length
      · obtain ⟨A', c', e', -, -, r'⟩ := HQ.out.below hB2.out
        cases e'
        obtain ⟨g, of, rfl, _, x1⟩ := r' (by omega)
        have t0 : wa.cell? ⟨g, of + k * 2, none⟩ = some (.int .u64 Q[k].1) := x1 _ _ (pvs_at0 hlt)
        have hd := Lib.hid (show decide (k < bl) = decide (Q[k].1 < a) from decide_eq_decide.2 (hbi.out k hlt))
        generalize Q[k] = q at *
        obtain ⟨qh, qn⟩ := q
        simp only at t0 hd
        have g1 : (0 : Int) ≤ (k : Int) := by omega
        have g2 : (k : Int) < (Q.length : Int) := by omega
        clear x1 r'
        go_wp2_with fail
        go_meet
        exact ⟨by rw [hd.out], rfl⟩
      · have g2 : ¬ (k : Int) < (Q.length : Int) := by omega
        have hd := Lib.hid (show decide (k < bl) = false from decide_eq_false (by omega))
        go_wp2_with fail
        go_meet
        exact ⟨by rw [hd.out], rfl⟩
    case rest =>
      obtain ⟨rfl, rfl⟩ := hcut
      by_cases hkb : k < bl
      · have hd : decide (k < bl) = true := decide_eq_true hkb
        go_wp2_with fail
        go_roundw
        case rel => exact ⟨k + 1, by go_num, by omega, hB2.out⟩
        case measure => simp [intOf]; omega
      · rw [show decide (k < bl) = false from decide_eq_false hkb]
        obtain rfl : k = bl := by omega
        have HQ2 := Lib.hid (HQ.out.below hB2.out)
        have hB3 := Lib.hid (Below.next hB1.out hz1 hB2.out)
        have hz3 := hB3.out.size
        clear hbi hB1 hB2 hk hkb HQ
        go_wp2_with fail
        go_loopw [8, 34] (fun o i wr => ∃ j : Nat, i = .int .i64 (j : Int) ∧ j ≤ Q.length ∧ Hid (Own wr wc.heap.size 9 1 o (ddp ((nms Q a).take j)).length (strs (ddp ((nms Q a).take j)))) ∧ Hid (Below wc.heap.size wc wr)) (fun _ i _ => Q.length - (intOf i).toNat)
        case atStart => exact ⟨0, rfl, by omega, own_nil _ _ _ _, Below.refl _ _⟩
        case round =>
          obtain ⟨j, rfl, hj, ho, hB⟩ := hrel
          obtain ⟨wb, rfl⟩ : ∃ wb, wb = wr := ⟨_, rfl⟩
          by_cases hlt : j < Q.length
          · have hJ : (k + j) % Q.length < Q.length := Nat.mod_lt _ (by omega)
            obtain ⟨A', c', e', -, -, r'⟩ := HQ2.out.below hB.out
            cases e'
            obtain ⟨g, of, rfl, _, x1⟩ := r' (by omega)
            have e1 : wb.cell? ⟨g, of + (k + j) % Q.length * 2 + 1, none⟩ = some (.string (str (Q[(k + j) % Q.length]).2)) := x1 _ _ (pvs_at1 hJ)
            have htk := Lib.hid (nms_take hs'.out (h := a) hlt)
            have hJm : Hid (((k : Int) + (j : Int)).tmod (Q.length : Int) = (((k + j) % Q.length : Nat) : Int)) := by
              show _ = _
              rw [Int.tmod_eq_emod_of_nonneg (by omega)]; rfl
            have htk2 : Hid (ddp ((nms Q a).take (j + 1)) = dstep (ddp ((nms Q a).take j)) (Q[(k + j) % Q.length]'hJ).2) := by
              have := htk.out
              simp only [HBQ.out] at this
              exact this
            have hdl : (ddp ((nms Q a).take j)).length ≤ j := Nat.le_trans (ddp_len _) (by rw [List.length_take]; exact Nat.min_le_left _ _)
            clear htk x1 r'
            generalize (Q[(k + j) % Q.length]'hJ).2 = px at *
            generalize (k + j) % Q.length = J at *
            generalize ddp ((nms Q a).take j) = O at *
            have w1' : IntKind.i64.wrap ((k : Int) + (j : Int)) = (k : Int) + (j : Int) := IntWalk.i64_in _ (by omega)
            have w2 : ((k : Int) + (j : Int)).tmod (Q.length : Int) = (J : Int) := hJm.out
            have w3 : (0 : Int) ≤ (J : Int) := by omega
            have w4 : (J : Int) < (Q.length : Int) := by omega
            have w5 : ((Q.length : Int) == 0) = false := beq_eq_false_iff_ne.2 (by omega)
            have w7 : ¬ (Q.length : Int) = 0 := by omega
            have w6 : ((k : Int) + (j : Int)) % (Q.length : Int) = (J : Int) := by rw [← hJm.out, Int.tmod_eq_emod_of_nonneg (by omega)]
            have w11 : IntKind.i64.wrap (J : Int) = (J : Int) := IntWalk.i64_in _ (by omega)
            have w12 : ¬ Q = [] := by rintro rfl; simp at hlt
            go_upto_region 11 with fail
            clear w1' w2 w3 w4 w5 w6 w7 w11 w12 e1
            obtain ⟨A8, c8, rfl, hc8, -, -⟩ := Rd.own ho.out
            have hdm : O.length ≤ 13000 := by omega
            go_wp2_with fail
            go_loopw [11, 49] (fun f i wr => ∃ kk : Nat, i = .int .i64 (kk : Int) ∧ kk ≤ O.length ∧ f = .bool (decide (px ∈ O.take kk)) ∧ wr = wb) (fun _ i _ => O.length - (intOf i).toNat)
            case atStart => exact ⟨0, rfl, by omega, by simp, rfl⟩
            case round =>
              obtain ⟨kk, rfl, hkk, rfl, rfl⟩ := hrel
              by_cases hlt3 : kk < O.length
              · obtain ⟨g8, c8', he⟩ := own_some ho.out (by omega)
                cases he
                have t0 : wr.cell? ⟨g8, kk, none⟩ = some (.string (str O[kk])) := own_at ho.out (strs_at hlt3)
                have htm := Lib.hid (take_mem hlt3 px)
                generalize O[kk] = y at *
                have g1 : (0 : Int) ≤ (kk : Int) := by omega
                have g2 : (kk : Int) < (O.length : Int) := by omega
                cases hm : decide (px ∈ O.take kk)
                · rw [hm] at htm
                  by_cases hy : y = px
                  · have e1 := str_eq hy
                    have hn := Lib.hid (show decide (px ∈ O.take (kk + 1)) = true by rw [htm.out, decide_eq_true hy]; rfl)
                    clear hy
                    go_wp2_with fail
                    go_roundw
                    case rel => exact ⟨kk + 1, by go_num, by omega, by rw [hn.out], trivial⟩
                    case measure => simp [intOf]; omega
                  · have e1 := str_ne hy
                    have hn := Lib.hid (show decide (px ∈ O.take (kk + 1)) = false by rw [htm.out, decide_eq_false hy]; rfl)
                    clear hy
                    go_wp2_with fail
                    go_roundw
                    case rel => exact ⟨kk + 1, by go_num, by omega, by rw [hn.out], trivial⟩
                    case measure => simp [intOf]; omega
                · rw [hm] at htm
                  have hn := Lib.hid (show decide (px ∈ O.take (kk + 1)) = true by rw [htm.out]; rfl)
                  go_wp2_with fail
                  go_roundw
                  case rel => exact ⟨kk + 1, by go_num, by omega, by rw [hn.out], trivial⟩
                  case measure => simp [intOf]; omega
              · obtain rfl : kk = O.length := by omega
                have hte : O.take O.length = O := List.take_of_length_le (Nat.le_refl _)
                rw [hte]
                have hBz := hB.out.size
                by_cases hin : px ∈ O
                · have hst : Hid (ddp ((nms Q a).take (j + 1)) = O) := by show _ = _; rw [htk2.out]; unfold dstep; rw [if_pos hin]
                  rw [decide_eq_true hin]
                  clear hin hte
                  go_wp2_with fail
                  go_roundw
                  case rel => exact ⟨j + 1, by go_num, by omega, by rw [hst.out]; exact ho.out, hB.out⟩
                  case measure => simp [intOf]; omega
                · have hst : Hid (ddp ((nms Q a).take (j + 1)) = O ++ [px]) := by show _ = _; rw [htk2.out]; unfold dstep; rw [if_neg hin]
                  rw [decide_eq_false hin]
                  clear hin hte
                  go_wp2_with (at_builtin; refine push_str _ _ rfl rfl rfl ho.out rfl rfl (by omega) hBz ?_; intro v8 w8 ho8 hb8; replace ho8 := Lib.hid ho8; have hB8 := Lib.hid (hB.out.trans hb8); clear hb8)
                  go_roundw
                  case rel => exact ⟨j + 1, by go_num, by omega, by rw [hst.out, strs_snoc, List.length_append, List.length_singleton]; exact ho8.out, hB8.out⟩
                  case measure => simp [intOf]; omega
          · have hje : j = Q.length := by omega
            have hfin : Hid (Own wb w.heap.size 9 1 u8 L.length (strs (own Q a))) := by
              have := Own.base ho.out hz3
              rw [List.take_of_length_le (by rw [nms_len]; omega), ← own_eq, Hol.out] at this
              exact this
            have hBf := Lib.hid (hB3.out.trans (hB.out.mono hz3))
            go_wp2_with fail
            go_ret
            exact ⟨_, rfl, hfin.out, hBf.out⟩
end Go.Proofs.Ytjjbeahdoblacaa
