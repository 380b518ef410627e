/-
  Layer 31: the walk of slices.DeleteFunc over points.
-/
import Derived.Test.YtjjbeahdoblacaaRgDel
import Derived.Test.YtjjbeahdoblacaaRgNodes
namespace Go.Proofs.Ytjjbeahdoblacaa
open Go.Shelf Go.RowKit Go.Lib Go.Sort Rg
theorem zc_mem (n : Nat) : ∀ v ∈ (Builtin.zeroCells #[Value.int .u64 0, .string ⟨#[]⟩] n).toList, v.oneCell' = true := by
  intro v hv
  unfold Builtin.zeroCells at hv
  rw [Array.toList_map, List.mem_map] at hv
  obtain ⟨i, -, rfl⟩ := hv
  have : i % 2 = 0 ∨ i % 2 = 1 := by omega
  rcases this with h | h
  · show (#[Value.int .u64 0, .string ⟨#[]⟩][i % 2]!).oneCell' = true
    rw [h]; rfl
  · show (#[Value.int .u64 0, .string ⟨#[]⟩][i % 2]!).oneCell' = true
    rw [h]; rfl
/-- clear of a row of points. -/
theorem run_clear_pts (w : World) (ty : TypeId) (b o n c : Nat) (hn : 0 < n) (hc : ∀ j, j < n * 2 → (w.cell? ⟨b, o + j, none⟩).isSome = true) (hf : ∀ j, j < n * 2 → w.frozen? ⟨b, o + j, none⟩ = false) :
    ∃ vs, vs.length = n * 2 ∧ (Builtin.clear_ #[67] ty #[.slice (some ⟨b, o, none⟩) n c]).run Try.prog w = .ok (.tuple #[]) (w.setCells b o vs) := by
  have hl : (Builtin.zeroCells #[Value.int .u64 0, .string ⟨#[]⟩] n).toList.length = n * 2 := by simp [Builtin.zeroCells]
  refine ⟨_, hl, ?_⟩
  have hst := run_storeCells_cells (P := Try.prog) b o (Builtin.zeroCells #[Value.int .u64 0, .string ⟨#[]⟩] n).toList 0 w (by rw [hl]; exact hc) (by rw [hl]; exact hf) (zc_mem n)
  simp only [Nat.add_zero] at hst
  obtain ⟨m, rfl⟩ : ∃ m, n = m + 1 := ⟨n - 1, by omega⟩
  have hz : ∀ w, (zeroValue 71).run Try.prog w = .ok (.agg #[.int .u64 0, .string ⟨#[]⟩]) w := fun _ => by kernel_rfl
  have hu : (underlying 67).run Try.prog w = .ok (.slice 71) w := run_underlying Try.underlying67 w
  simp [Builtin.clear_, hu, hz, Value.cells, hst]
theorem pvs_set {Q : List Pt} {a : Nat} {p : Pt} {w : World} {g m : Nat} {e : TypeId} (hS : Shp w g e m) (hm : Q.length * 2 ≤ m) (ha : a < Q.length) (h : ∀ j u, (pvs Q)[j]? = some u → w.cell? ⟨g, j, none⟩ = some u) :
    ∀ j u, (pvs (Q.set a p))[j]? = some u → (w.setCells g (a * 2) (encP p)).cell? ⟨g, j, none⟩ = some u := by
  have hk : ∀ k, k < (Q.set a p).length → k < Q.length := fun k hk => by rwa [List.length_set] at hk
  refine pvs_all (fun k hk' => ?_) (fun k hk' => ?_)
  · by_cases hka : k = a
    · subst hka
      have := sets_in hS (i := k * 2) (vs := encP p) (by simp [encP]; omega) (j := 0) (by simp [encP])
      rw [Nat.add_zero] at this
      rw [this, List.getElem_set_self]; rfl
    · rw [sets_out (by simp [encP]; omega), List.getElem_set_ne (fun e => hka e.symm)]
      exact h _ _ (pvs_at0 (hk k hk'))
  · by_cases hka : k = a
    · subst hka
      have := sets_in hS (i := k * 2) (vs := encP p) (by simp [encP]; omega) (j := 1) (by simp [encP])
      rw [this, List.getElem_set_self]; rfl
    · rw [sets_out (by simp [encP]; omega), List.getElem_set_ne (fun e => hka e.symm)]
      exact h _ _ (pvs_at1 (hk k hk'))
set_option maxRecDepth 100000 in
set_option maxHeartbeats 16000000 in
theorem dfunc_any (w : World) (B R g cap : Nat) (Q : List Pt) (x : Nm) (hO : Own w B 71 2 (.slice (some ⟨g, 0, none⟩) Q.length cap) Q.length (pvs Q)) (hR : w.cell? ⟨R, 0, none⟩ = some (.string (str x))) (hQ : Q.length ≤ 1000000) (hRg : R ≠ g) (hx : ∃ p ∈ Q, p.2 = x) :
    Calls Try.prog 37 #[.slice (some ⟨g, 0, none⟩) Q.length cap, .func (.func 38) #[] #[.pointer (some ⟨R, 0, none⟩)]] w fun e w' =>
      e = .returned (.slice (some ⟨g, 0, none⟩) (offN x Q).length cap) ∧ Own w' B 71 2 (.slice (some ⟨g, 0, none⟩) (offN x Q).length cap) (offN x Q).length (pvs (offN x Q)) ∧ Kp (fun b => b = g) w w' := by
  obtain ⟨hS, hBg, hnc, hcm⟩ := own_shp hO
  have hq : ∀ j u, (pvs Q)[j]? = some u → w.cell? ⟨g, j, none⟩ = some u := fun j u hu => own_at hO hu
  obtain ⟨k, hk, he, ht, hf⟩ := first_at hx
  have hix := index_rm x R g cap k Q w hR hS hq hQ hk he hf
  have hst := DelAt.start hk he ht
  have HR := Lib.hid hR
  have HS := Lib.hid hS
  have Hq := Lib.hid hq
  have Hst := Lib.hid hst
  clear hR hS hq hst hO he ht hf hx
  have hg := HS.out.lt
  have hRl := cell_lt HR.out
  have hkm : ((k : Int) == -1) = false := by rw [beq_eq_false_iff_ne]; omega
  unfold maxLen at hcm
  go_enter Try.func37, Try.ntmps37
  go_wp2_with fail
  refine hix.mono ?_
  rintro e w1 ⟨rfl, hb1⟩
  have hK1 := Lib.hid ((Kp.refl (fun b => b = g) w).below hb1)
  have hS1 := Lib.hid (HS.out.below hb1)
  have hq1 := Lib.hid (fun j u (hu : (pvs Q)[j]? = some u) => (hb1.cell (p := ⟨g, j, none⟩) hg).trans (Hq.out j u hu))
  clear hb1 hix
  go_wp2_with fail
  go_loopw [5, 6] (fun i5 i6 wr => ∃ (D : List Pt) (a j : Nat), i5 = .int .i64 (a : Int) ∧ i6 = .int .i64 (j : Int) ∧ j ≤ Q.length ∧ a < j ∧ Hid (DelAt x Q D a j) ∧ Hid (Kp (fun b => b = g) w wr) ∧ Hid (Shp wr g 71 (cap * 2)) ∧ Hid (∀ i u, (pvs D)[i]? = some u → wr.cell? ⟨g, i, none⟩ = some u)) (fun _ i _ => Q.length - (intOf i).toNat)
  case atStart => exact ⟨Q, k, k + 1, rfl, by go_num, by omega, by omega, Hst.out, hK1.out, hS1.out, hq1.out⟩
  case round =>
    obtain ⟨D, a, j, rfl, rfl, hj, haj, hD, hK, hSr, hqr⟩ := hrel
    clear hq1 hS1 hK1
    by_cases hlt : j < Q.length
    · have hjD : j < D.length := by rw [hD.out.len]; exact hlt
      have e0 : wr.cell? ⟨g, j * 2, none⟩ = some (.int .u64 D[j].1) := hqr.out _ _ (pvs_at0 hjD)
      have e1 : wr.cell? ⟨g, j * 2 + 1, none⟩ = some (.string (str D[j].2)) := hqr.out _ _ (pvs_at1 hjD)
      have hDj := hD.out.at_ hlt
      have k1 : (0 : Int) ≤ (j : Int) := by omega
      have k2 : (j : Int) < (Q.length : Int) := by omega
      have k3 : (0 : Int) ≤ (a : Int) := by omega
      have k4 : (a : Int) < (Q.length : Int) := by omega
      have hRw := (hK.out.cell (p := ⟨R, 0, none⟩) hRl hRg).trans HR.out
      have hsz := hK.out.size
      have hpr := fun (W : World) (hW : W.cell? ⟨R, 0, none⟩ = some (.string (str x))) => pred_rm x R W hW W D[j] (Below.refl _ _)
      have hskip := Lib.hid (fun (e : D[j].2 = x) => hD.out.skip hlt (by rw [← hDj]; exact e))
      have hkeep := Lib.hid (fun (e : D[j].2 ≠ x) => hD.out.keep hlt (by rw [← hDj]; exact e))
      rw [← hDj] at hkeep
      generalize D[j] = p at *
      obtain ⟨ph, pn⟩ := p
      clear hDj
      simp only [encP] at e0 e1 hpr
      have Hpr := Lib.hid hpr
      clear hpr
      have hnb := blk_new wr 71 #[.int .u64 ph, .string (str pn)]
      have hRa : (wr.alloc (.cells #[.int .u64 ph, .string (str pn)] 71)).cell? ⟨R, 0, none⟩ = some (.string (str x)) := Lib.cell?_alloc_some _ hRw
      have hKa := hK.out.alloc (.cells #[.int .u64 ph, .string (str pn)] 71)
      have hSa : Shp (wr.alloc (.cells #[.int .u64 ph, .string (str pn)] 71)) g 71 (cap * 2) := hSr.out.below ((Below.refl _ _).alloc (Nat.le_refl _) _)
      have hqa : ∀ i u, (pvs D)[i]? = some u → (wr.alloc (.cells #[.int .u64 ph, .string (str pn)] 71)).cell? ⟨g, i, none⟩ = some u := fun i u hu => Lib.cell?_alloc_some _ (hqr.out i u hu)
      have hsza : (wr.alloc (.cells #[.int .u64 ph, .string (str pn)] 71)).heap.size = wr.heap.size + 1 := by simp
      have Hnb := Lib.hid hnb
      have HRa := Lib.hid hRa
      have HKa := Lib.hid hKa
      have HSa := Lib.hid hSa
      have Hqa := Lib.hid hqa
      have Hsza := Lib.hid hsza
      clear hnb hRa hKa hSa hqa hsza hRw
      go_wp2_with fail
      refine (Hpr.out _ HRa.out).mono ?_
      rintro e w5 ⟨rfl, hb5⟩
      have hB5 := Lib.hid hb5
      have hK5 := Lib.hid (HKa.out.below hb5)
      have hS5 := Lib.hid (HSa.out.below hb5)
      have hn5 := Hnb.out.below hb5
      have f0 : w5.cell? ⟨wr.heap.size, 0, none⟩ = some (.int .u64 ph) := hn5.cell 0
      have f1 : w5.cell? ⟨wr.heap.size, 1, none⟩ = some (.string (str pn)) := hn5.cell 1
      have hq5 := Lib.hid (fun i u (hu : (pvs D)[i]? = some u) => (hb5.cell (p := ⟨g, i, none⟩) (by have := HSa.out.lt; exact this)).trans (Hqa.out i u hu))
      clear hb5 hn5 e0 e1
      by_cases hpn : pn = x
      · have hs := Lib.hid (hskip.out hpn)
        have hd : decide (pn = x) = true := decide_eq_true hpn
        rw [hd]
        clear hpn hd
        go_wp2_with fail
        go_roundw
        case rel => exact ⟨D, a, j + 1, rfl, by go_num, by omega, by omega, hs.out, hK5.out, hS5.out, hq5.out⟩
        case measure => simp [intOf]; omega
      · have hs := Lib.hid (hkeep.out hpn)
        have hd : decide (pn = x) = false := decide_eq_false hpn
        rw [hd]
        clear hpn hd
        have haD : a < D.length := by omega
        have t0 : w5.cell? ⟨g, a * 2, none⟩ = some (.int .u64 D[a].1) := hq5.out _ _ (pvs_at0 haD)
        have t1 : w5.cell? ⟨g, a * 2 + 1, none⟩ = some (.string (str D[a].2)) := hq5.out _ _ (pvs_at1 haD)
        have z0 : w5.frozen? ⟨g, a * 2, none⟩ = false := hS5.out.frozen _
        have z1 : w5.frozen? ⟨g, a * 2 + 1, none⟩ = false := hS5.out.frozen _
        have hset := Lib.hid (pvs_set (p := (ph, pn)) hS5.out (by rw [hD.out.len]; omega) haD hq5.out)
        have hKs := Lib.hid (sets_kp g (encP (ph, pn)) (a * 2) hK5.out)
        have hSs := Lib.hid (hS5.out.sets g (encP (ph, pn)) (a * 2))
        generalize D[a].1 = oh at t0
        generalize D[a].2 = on at t1
        go_wp2_with fail
        go_roundw
        case rel => exact ⟨_, a + 1, j + 1, by go_num, by go_num, by omega, by omega, hs.out, hKs.out, hSs.out, hset.out⟩
        case measure => simp [intOf]; omega
    · have hjQ : j = Q.length := by omega
      subst hjQ
      have hfin := Lib.hid hD.out.end_
      have hlD := hD.out.len
      have hoff : (offN x Q).length = a := by rw [← hfin.out, List.length_take]; omega
      have hcl : ∃ vs : List Value, vs.length = (Q.length - a) * 2 ∧ ∀ ty, (Builtin.clear_ #[67] ty #[.slice (some ⟨g, a * 2, none⟩) (Q.length - a) (cap - a)]).run Try.prog wr = .ok (.tuple #[]) (wr.setCells g (a * 2) vs) := by
        have hh := fun ty => run_clear_pts wr ty g (a * 2) (Q.length - a) (cap - a) (by omega) (fun t ht => hSr.out.some (by omega)) (fun t ht => hSr.out.frozen _)
        obtain ⟨vs, hv, h0⟩ := hh 0
        exact ⟨vs, hv, fun ty => h0⟩
      obtain ⟨vs, hvl, hcl⟩ := hcl
      have k3 : (0 : Int) ≤ (a : Int) := by omega
      have k4 : (a : Int) ≤ (Q.length : Int) := by omega
      have k5 : a ≠ cap := by omega
      have k6 : a ≤ Q.length := by omega
      have k7 : Q.length ≤ cap := hnc
      have Hvl := Lib.hid hvl
      have Hoff := Lib.hid hoff
      clear hvl hoff
      go_wp2_with fail
      go_ret
      refine ⟨by rw [Hoff.out]; rfl, ?_, sets_kp g vs (a * 2) hK.out⟩
      refine own_mk (hSr.out.sets g vs (a * 2)) hBg (by rw [Hoff.out]; omega) (by unfold maxLen; omega) (pvs_len _) (fun i u hu => ?_)
      have hi : i < a * 2 := by
        have := (List.getElem?_eq_some_iff.1 hu).1
        rwa [pvs_len, Hoff.out] at this
      rw [sets_out (Or.inl hi)]
      refine hqr.out i u ?_
      rw [← hfin.out] at hu
      have hpd : pvs D = pvs (D.take a) ++ pvs (D.drop a) := by unfold pvs; rw [← List.flatMap_append, List.take_append_drop]
      rw [hpd, List.getElem?_append_left (by rw [pvs_len, List.length_take]; omega)]
      exact hu
end Go.Proofs.Ytjjbeahdoblacaa
