/-
  Layer 31, the document: Points.
-/
import Derived.Test.YtjjbeahdoblacaaRgRefP
import Derived.IntWalk
import Derived.Deep.RegionHeld3
import Derived.Deep.CutRange
namespace Go.Proofs.Ytjjbeahdoblacaa
open Go.Shelf Go.RowKit Go.Lib Go.Sort Rg
attribute [local go_sem ↓] Go.wp_at_zero Go.wp_at_succ
namespace Rg
theorem pts_next {P : List Pt} {x : Nm} {n k : Nat} (h : k < 8 * n) : srt (P ++ (pts1 x n).take (k + 1)) = ins (Sk.hash (k : Int) x, x) (srt (P ++ (pts1 x n).take k)) := by
  rw [pts1_take h, ← List.append_assoc, srt_snoc]
theorem pts_all {L : List Nd} {k : Nat} (h : k < L.length) : ptsOf (L.take (k + 1)) = srt (allPts (L.take k) ++ (pts1 L[k].1 L[k].2).take (8 * L[k].2)) := by
  unfold ptsOf
  rw [List.take_succ_eq_append_getElem h, allPts_snoc, List.take_of_length_le (l := pts1 L[k].1 L[k].2) (by rw [pts1_len]; exact Nat.le_refl _)]
end Rg
set_option maxRecDepth 100000 in
set_option maxHeartbeats 16000000 in
theorem points_ref (w : World) (lv : Value) (L : List Nd) (hR : Rd w 2 lv L.length (nvs L)) (hg : Rg.Good L) (hnm : ∀ y ∈ L, y.1.length ≤ 100000) (hL : L.length ≤ 100) :
    Calls Try.prog 25 #[lv] w fun e w' => ∃ o, e = .returned o ∧ Own w' w.heap.size 65 2 o (ptsOf L).length (pvs (ptsOf L)) ∧ Below w.heap.size w w' := by
  obtain ⟨A, cap, rfl, hcap, -, -⟩ := id hR
  have HR := Lib.hid hR
  have Hg := Lib.hid hg
  have Hnm := Lib.hid hnm
  clear hR hg hnm
  go_enter Try.func25, Try.ntmps25
  go_wp2_with fail
  have HN0 := Lib.hid (own_nil w w.heap.size 65 2)
  go_loopw [3, 11] (fun o i wr => ∃ k : Nat, i = .int .i64 (k : Int) ∧ k ≤ L.length ∧ Hid (Below w.heap.size w wr) ∧ Hid (Own wr w.heap.size 65 2 o (ptsOf (L.take k)).length (pvs (ptsOf (L.take k))))) (fun _ i _ => L.length - (intOf i).toNat)
  case atStart => exact ⟨0, rfl, by omega, Below.refl _ _, HN0.out⟩
  case round =>
    clear HN0
    obtain ⟨k, rfl, hk, hB, hO⟩ := hrel
    obtain ⟨wo, rfl⟩ : ∃ wo, wo = wr := ⟨_, rfl⟩
    by_cases hlt : k < L.length
    · obtain ⟨A', cap', e', -, -, r'⟩ := HR.out
      cases e'
      obtain ⟨b1, o1, rfl, hb1l, x1⟩ := r' (by omega)
      have d0 : w.cell? ⟨b1, o1 + k * 2, none⟩ = some (.string (str L[k].1)) := x1 _ _ (two_at0 _ _ hlt)
      have d1 : wo.cell? ⟨b1, o1 + k * 2, none⟩ = some (.string (str L[k].1)) := by rw [hB.out.cell (p := ⟨b1, o1 + k * 2, none⟩) hb1l]; exact d0
      have d2 : wo.cell? ⟨b1, o1 + k * 2 + 1, none⟩ = some (.int .i64 (L[k].2 : Int)) := by rw [hB.out.cell (p := ⟨b1, o1 + k * 2 + 1, none⟩) hb1l]; exact x1 _ _ (two_at1 _ _ hlt)
      have hpa := Lib.hid (pts_all hlt)
      have hwt := Hg.out.wt _ (List.getElem_mem hlt)
      have hnl := Hnm.out _ (List.getElem_mem hlt)
      have hPl := allPts_len (L.take k) (fun y hy => (Hg.out.wt y (List.take_subset _ _ hy)).2)
      have hlk : (L.take k).length ≤ 100 := by rw [List.length_take]; omega
      clear x1 r'
      generalize L[k] = y at *
      obtain ⟨x, n⟩ := y
      simp only at d0 d1 d2 hpa hwt hnl
      obtain ⟨m, hm⟩ : ∃ m, 8 * n = m := ⟨_, rfl⟩
      have hm8 : IntKind.i64.wrap (8 * (n : Int)) = (m : Int) := by rw [← hm]; exact IntWalk.i64_in _ (by omega)
      have hnx := fun kk (h : kk < m) => pts_next (P := allPts (L.take k)) (x := x) (n := n) (k := kk) (by omega)
      have hpl : (pts1 x n).length = m := by rw [pts1_len]; exact hm
      have hO0 : Hid (Own wo w.heap.size 65 2 u3 (srt (allPts (L.take k) ++ (pts1 x n).take 0)).length (pvs (srt (allPts (L.take k) ++ (pts1 x n).take 0)))) := by
        rw [List.take_zero, List.append_nil]; exact hO.out
      rw [hm] at hpa
      have hm1 : m ≤ 128 := by omega
      clear hO hm
      generalize allPts (L.take k) = P0 at *
      generalize pts1 x n = P1 at *
      have hPl2 : P0.length ≤ 12800 := by omega
      have Hnx := Lib.hid hnx
      have Hpl := Lib.hid hpl
      have D0 := Lib.hid d0
      clear d0
      clear hPl hlk hnx hpl
      go_wp2_with fail
      go_loopw [3, 20] (fun o i wi => ∃ kk : Nat, i = .int .i64 (kk : Int) ∧ kk ≤ m ∧ Hid (Below w.heap.size w wi) ∧ Hid (Own wi w.heap.size 65 2 o (srt (P0 ++ P1.take kk)).length (pvs (srt (P0 ++ P1.take kk))))) (fun _ i _ => m - (intOf i).toNat)
      case atStart => exact ⟨0, rfl, by omega, hB.out, hO0⟩
      case round =>
        clear hO0
        obtain ⟨kk, rfl, hkk, hBi, hO⟩ := hrel
        by_cases hlt2 : kk < m
        · have hS := srt_srt (P0 ++ P1.take kk)
          have hSl : (srt (P0 ++ P1.take kk)).length ≤ 13000 := by rw [srt_len, List.length_append, List.length_take]; omega
          have Hn1 := Lib.hid (Hnx.out kk hlt2)
          generalize srt (P0 ++ P1.take kk) = S at *
          obtain ⟨wq, rfl⟩ : ∃ wq, wq = wr := ⟨_, rfl⟩
          obtain ⟨A4, c4, rfl, hc4, -, -⟩ := Rd.own hO.out
          have e1 : wq.cell? ⟨b1, o1 + k * 2, none⟩ = some (.string (str x)) := by rw [hBi.out.cell (p := ⟨b1, o1 + k * 2, none⟩) hb1l]; exact D0.out
          have hH := Lib.hid (fun w => hash_k2 kk x w (by omega) hnl)
          have k1 : (0 : Int) ≤ (k : Int) := by omega
          have k2 : (k : Int) < (L.length : Int) := by omega
          generalize Sk.hash (kk : Int) x = hv at *
          go_upto_region 8 with fail
          go_cut [6] from 23 to 36 (fun c6 wx => ∃ Pb : Nat, c6 = .pointer (some ⟨Pb, 0, none⟩) ∧ Hid (Below wq.heap.size wq wx) ∧ Hid (Blk wx Pb 65 #[.int .u64 hv, .string (str x)]) ∧ wq.heap.size ≤ Pb)
          case first =>
            have hnb := Lib.hid ((blk_new wq 65 #[.int .u64 hv, .string (str x)]).drew)
            have hB0 := Lib.hid (show Below wq.heap.size wq (wq.alloc (.cells #[.int .u64 hv, .string (str x)] 65)).drew from ((Below.refl _ _).alloc (Nat.le_refl _) _).drew)
            go_region_held3 (fun w' => w'.cell? ⟨b1, o1 + k * 2, none⟩ = some (.string (str x))) (first | exact e1 | go_keep) (first | (go_at_call 26; refine (hH.out _).mono ?_; rintro e w1 ⟨rfl, rfl⟩))
            all_goals
              rename_i hHeld
              clear hHeld
              go_wp2_with fail
              go_meet
              exact ⟨wq.heap.size, rfl, hB0.out, hnb.out, Nat.le_refl _⟩
          case rest =>
            obtain ⟨Pb, rfl, hBx, hPb, hPl3⟩ := hcut
            have hOc := Lib.hid (own_below hO.out hBx.out)
            have hBc := Lib.hid (Below.next hBi.out hBi.out.size hBx.out)
            have hzc := hBx.out.size
            have hlow := Lib.hid (fun b (hb : (Value.slice A4 S.length c4).ownBlock = some b) => (World.ownsRow.lt hO.out b hb).2)
            clear hO hBx e1 hH hBi d1 d2
            go_wp2_with fail
            go_loopw [7] (fun i wi => ∃ a : Nat, i = .int .i64 (a : Int) ∧ a ≤ S.length ∧ Hid (Below wc.heap.size wc wi) ∧ Hid (∀ j, (hj : j < S.length) → a ≤ j → ptLt (hv, x) S[j] = true)) (fun i _ => (intOf i).toNat)
            case atStart => exact ⟨S.length, rfl, Nat.le_refl _, Below.refl _ _, fun j hj h => absurd hj (by omega)⟩
            case round =>
              obtain ⟨a, rfl, ha, hBa, hup⟩ := hrel
              obtain ⟨wa, rfl⟩ : ∃ wa, wa = wr := ⟨_, rfl⟩
              have hPa := Lib.hid (hPb.out.below hBa.out)
              have hOa := Lib.hid (own_below hOc.out hBa.out)
              go_upto_region 10 with fail
              go_cut [49] from 39 to 49 (fun c49 wx => ∃ r : Bool, c49 = .bool r ∧ Hid (Below wa.heap.size wa wx) ∧ Hid (r = true → 0 < a ∧ ∃ q, S[a - 1]? = some q ∧ ptLt (hv, x) q = true) ∧ Hid (r = false → a = 0 ∨ (0 < a ∧ ∃ q, S[a - 1]? = some q ∧ ptLt (hv, x) q = false)))
              case first =>
                by_cases ha0 : a = 0
                · subst ha0
                  have g0 : decide ((0 : Int) < ((0 : Nat) : Int)) = false := by decide
                  go_quiet (fail)
                  all_goals
                    go_wp2_with fail
                    go_meet
                    exact ⟨false, rfl, below_drewN (Below.refl _ _) _, Lib.hid (by simp), Lib.hid (by simp)⟩
                · obtain ⟨b, hb⟩ : ∃ b, a = b + 1 := ⟨a - 1, by omega⟩
                  have hbS : b < S.length := by omega
                  obtain ⟨g4, c4', he⟩ := own_some hOa.out (by omega)
                  cases he
                  have t0 : wa.cell? ⟨g4, b * 2, none⟩ = some (.int .u64 S[b].1) := own_at hOa.out (pvs_at0 hbS)
                  have t1 : wa.cell? ⟨g4, b * 2 + 1, none⟩ = some (.string (str S[b].2)) := own_at hOa.out (pvs_at1 hbS)
                  have hless := Lib.hid (fun W => less_ref (hv, x) S[b] W)
                  have hres : Hid (∀ r : Bool, r = ptLt (hv, x) S[b] → (r = true → 0 < a ∧ ∃ q, S[a - 1]? = some q ∧ ptLt (hv, x) q = true) ∧ (r = false → a = 0 ∨ (0 < a ∧ ∃ q, S[a - 1]? = some q ∧ ptLt (hv, x) q = false))) := by
                    intro r hr
                    subst hb
                    exact ⟨fun h => ⟨by omega, S[b], List.getElem?_eq_getElem hbS, by rw [← hr]; exact h⟩, fun h => Or.inr ⟨by omega, S[b], List.getElem?_eq_getElem hbS, by rw [← hr]; exact h⟩⟩
                  generalize S[b] = q at *
                  obtain ⟨qh, qn⟩ := q
                  simp only at t0 t1 hless
                  have hPc := hPa.out
                  have c0 : wa.cell? ⟨Pb, 0, none⟩ = some (.int .u64 hv) := hPc.cell 0
                  have c1 : wa.cell? ⟨Pb, 1, none⟩ = some (.string (str x)) := hPc.cell 1
                  have hw1 : IntKind.i64.wrap ((a : Int) - 1) = (b : Int) := by rw [hb]; exact (IntWalk.i64_in _ (by omega)).trans (by omega)
                  have g1 : decide ((0 : Int) < (a : Int)) = true := decide_eq_true (by omega)
                  have g2 : (0 : Int) ≤ (b : Int) := by omega
                  have g3 : (b : Int) < (S.length : Int) := by omega
                  have hgl : g4 < wa.heap.size := hOa.out.lt rfl
                  have hpl : Pb < wa.heap.size := hPc.lt
                  have g5 : (0 : Int) < (a : Int) := by omega
                  have g6 : 0 < a := by omega
                  clear ha0 hb hPc
                  go_region_with (go_at_call 39; refine (hless.out _).mono ?_; rintro e w1 ⟨rfl, hb1⟩; replace hb1 := Lib.hid hb1)
                  all_goals
                    go_wp2_with fail
                    go_meet
                    exact ⟨_, rfl, by first | exact below_of_drew hb1.out | exact hb1.out, Lib.hid (hres.out _ rfl).1, Lib.hid (hres.out _ rfl).2⟩
              case rest =>
                obtain ⟨r, rfl, hBr, ht, hf⟩ := hcut
                cases r
                · have hf := hf.out rfl
                  have hins := Lib.hid (show ins (hv, x) S = S.take a ++ (hv, x) :: S.drop a from ins_split (fun j hj hja => by
                    rcases hf with hf | ⟨h0, q, hq, hf⟩
                    · omega
                    · obtain ⟨hb, rfl⟩ := List.getElem?_eq_some_iff.1 hq
                      exact srt_head hS hb hf j hj (by omega)) hup.out ha)
                  have hOr := Lib.hid (own_below hOa.out hBr.out)
                  have hPr := Lib.hid (hPa.out.below hBr.out)
                  have hBw := Lib.hid (Below.next hBc.out hBc.out.size (Below.next hBa.out hBa.out.size hBr.out))
                  have hzr := hBw.out.size
                  have hPbl := hPr.out.lt
                  clear hf ht hup hBr hBa hPa hOa hOc hPb hBc hS
                  obtain ⟨M, hM⟩ : ∃ M, S.length + 1 = M := ⟨_, rfl⟩
                  have hw2 : IntKind.i64.wrap ((M : Int) - 1) = (S.length : Int) := by rw [← hM]; exact (IntWalk.i64_in _ (by omega)).trans (by omega)
                  have HM := Lib.hid hM
                  have hbase := Lib.hid (fun b (hb : (Value.slice A4 S.length c4).ownBlock = some b) => (World.ownsRow.lt hOr.out b hb).1)
                  clear hM
                  go_wp2_with (at_builtin; refine push_rpt _ _ rfl rfl (v := .slice A4 S.length c4) rfl hOr.out rfl (by omega) hzr ?_; intro v3 w3 ho3 hk3 hat3; rw [HM.out] at ho3; obtain ⟨g5, c5, rfl⟩ := own_some ho3 (by have := HM.out; omega); replace ho3 := Lib.hid ho3; replace hk3 := Lib.hid hk3; replace hat3 := Lib.hid hat3)
                  have hPn : Pb ≠ g5 := by
                    rcases hat3.out with h | ⟨b, h, hb⟩
                    · intro e; have := hlow.out g5 (h.symm.trans rfl); omega
                    · simp only [Value.ownBlock, Option.some.injEq] at h
                      omega
                  have hBw3 := Lib.hid (hBw.out.trans (hk3.out.toBelow hzr (fun b hb => hbase.out b hb)))
                  have hP3 := Lib.hid (hPr.out.kp (fun h => by have := hlow.out Pb h; omega) hk3.out)
                  have hg5 : w.heap.size ≤ g5 := (World.ownsRow.lt ho3.out g5 rfl).1
                  clear hk3 hat3 hlow hbase hOr hPr hBw hPbl hPl3
                  rw [← mvd_start] at ho3
                  go_loopw [8] (fun j wi => ∃ jj : Nat, j = .int .i64 (jj : Int) ∧ a ≤ jj ∧ jj ≤ S.length ∧ Hid (Own wi w.heap.size 65 2 (.slice (some ⟨g5, 0, none⟩) M c5) M (pvs (mvd S (0, []) jj))) ∧ Hid (Kp (fun b => b = g5) w3 wi)) (fun j _ => (intOf j).toNat)
                  case atStart => exact ⟨S.length, rfl, ha, Nat.le_refl _, ho3.out, Kp.refl _ _⟩
                  case round =>
                    obtain ⟨jj, rfl, hj1, hj2, hOj, hKj⟩ := hrel
                    have hml := Lib.hid (mvd_len (z := ((0, []) : Pt)) hj2)
                    by_cases hlj : a < jj
                    · obtain ⟨b, hb⟩ : ∃ b, jj = b + 1 := ⟨jj - 1, by omega⟩
                      have hbS : b < S.length := by omega
                      have hst := Lib.hid (mvd_step (z := ((0, []) : Pt)) hbS)
                      have hsr := mvd_src (z := ((0, []) : Pt)) hbS
                      rw [← hb] at hst hsr
                      obtain ⟨hb2, hb3⟩ := List.getElem?_eq_some_iff.1 hsr
                      have t0 := own_at hOj.out (pvs_at0 hb2)
                      have t1 := own_at hOj.out (pvs_at1 hb2)
                      rw [hb3] at t0 t1
                      have hjm : jj < (mvd S (0, []) jj).length := by have := hml.out; omega
                      have t2 := own_at hOj.out (pvs_at0 hjm)
                      have t3 := own_at hOj.out (pvs_at1 hjm)
                      have hsh := (own_shp hOj.out).1
                      have z0 := hsh.frozen (jj * 2)
                      have z1 := hsh.frozen (jj * 2 + 1)
                      have hset := own_setp S[b] hOj.out (by have := hml.out; have := HM.out; omega) (k := jj) (by have := HM.out; omega)
                      rw [hst.out] at hset
                      have hw1 : IntKind.i64.wrap ((jj : Int) - 1) = (b : Int) := by rw [hb]; exact (IntWalk.i64_in _ (by omega)).trans (by omega)
                      have q1 : (0 : Int) ≤ (b : Int) := by omega
                      have q2 : (b : Int) < (M : Int) := by have := HM.out; omega
                      have q3 : (0 : Int) ≤ (jj : Int) := by omega
                      have q4 : (jj : Int) < (M : Int) := by have := HM.out; omega
                      have hab : a ≤ b := by omega
                      have hbj : b < jj := by omega
                      have hS1 := Lib.hid hset.1
                      have hK1 := Lib.hid (hKj.out.trans hset.2)
                      generalize (mvd S (0, []) jj)[jj].1 = y0 at t2
                      generalize (mvd S (0, []) jj)[jj].2 = y1 at t3
                      clear hsh hset hst hsr hb3 hb2 hjm
                      generalize S[b] = q at *
                      obtain ⟨qh, qn⟩ := q
                      simp only at t0 t1
                      clear hb hOj hKj hml
                      go_wp2_with fail
                      go_roundw
                      case rel => exact ⟨b, rfl, hab, by omega, hS1.out, hK1.out⟩
                      case measure => simp [intOf]; omega
                    · obtain rfl : jj = a := by omega
                      have hjm : jj < (mvd S (0, []) jj).length := by have := hml.out; omega
                      have t2 := own_at hOj.out (pvs_at0 hjm)
                      have t3 := own_at hOj.out (pvs_at1 hjm)
                      have hsh := (own_shp hOj.out).1
                      have z0 := hsh.frozen (jj * 2)
                      have z1 := hsh.frozen (jj * 2 + 1)
                      have hset := own_setp (hv, x) hOj.out (by have := hml.out; have := HM.out; omega) (k := jj) (by have := HM.out; omega)
                      have hMl := Lib.hid (show M = (srt (P0 ++ P1.take (kk + 1))).length by rw [Hn1.out, (ins_perm _ _).length_eq, List.length_cons]; exact HM.out.symm)
                      rw [mvd_put hj2, ← hins.out, ← Hn1.out] at hset
                      have q3 : (0 : Int) ≤ (jj : Int) := by omega
                      have q4 : (jj : Int) < (M : Int) := by have := HM.out; omega
                      have hPj := hP3.out.kp (fun e => hPn e) hKj.out
                      have c0 : wr.cell? ⟨Pb, 0, none⟩ = some (.int .u64 hv) := hPj.cell 0
                      have c1 : wr.cell? ⟨Pb, 1, none⟩ = some (.string (str x)) := hPj.cell 1
                      have hF := Lib.hid (hBw3.out.trans ((hKj.out.trans hset.2).toBelow hBw3.out.size (fun b e => by subst e; exact hg5)))
                      have hS1 := Lib.hid hset.1
                      generalize (mvd S (0, []) jj)[jj].1 = y0 at t2
                      generalize (mvd S (0, []) jj)[jj].2 = y1 at t3
                      clear hsh hset hjm hPj hOj hKj hml hins Hn1 hP3 hBw3
                      go_wp2_with fail
                      go_roundw
                      case rel => exact ⟨kk + 1, by go_num, by omega, hF.out, by rw [← hMl.out]; exact hS1.out⟩
                      case measure => simp [intOf]; omega
                · obtain ⟨h0, q, hq, hlt3⟩ := ht.out rfl
                  obtain ⟨b, hb⟩ : ∃ b, a = b + 1 := ⟨a - 1, by omega⟩
                  have hw1 : IntKind.i64.wrap ((a : Int) - 1) = (b : Int) := by rw [hb]; exact (IntWalk.i64_in _ (by omega)).trans (by omega)
                  have hup2 : Hid (∀ j, (hj : j < S.length) → b ≤ j → ptLt (hv, x) S[j] = true) := fun j hj hbj => by
                    rcases Nat.eq_or_lt_of_le hbj with rfl | hlt4
                    · obtain ⟨hb2, rfl⟩ := List.getElem?_eq_some_iff.1 hq
                      subst hb
                      exact hlt3
                    · exact hup.out j hj (by omega)
                  have hBn := Lib.hid (Below.next hBa.out hBa.out.size hBr.out)
                  have hbl : b ≤ S.length := by omega
                  have hba : b < a := by omega
                  clear hb h0 hq hlt3 hf ht
                  go_wp2_with fail
                  go_roundw
                  case rel => exact ⟨b, rfl, hbl, hBn.out, hup2.out⟩
                  case measure => simp [intOf]; omega
        · obtain rfl : kk = m := by omega
          rw [← hpa.out] at hO
          go_wp2_with fail
          go_roundw
          case rel => exact ⟨k + 1, by go_num, by omega, hBi.out, hO.out⟩
          case measure => simp [intOf]; omega
    · obtain rfl : k = L.length := by omega
      rw [List.take_of_length_le (Nat.le_refl _)] at hO
      go_wp2_with fail
      go_ret
      exact ⟨_, rfl, hO.out, hB.out⟩
end Go.Proofs.Ytjjbeahdoblacaa
