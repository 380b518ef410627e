/-
  Several texts in one: RgDel, RgDelW, RgRem.
-/
import Derived.Test.YtpfpjcfacbfjaaaGreatDoorRgSort
import Derived.Test.YtpfpjcfacbfjaaaGreatDoorShelfSl
import Derived.Deep.MidRow
import Derived.Shelf.SlicesQ.IndexFunc
import Derived.Test.YtpfpjcfacbfjaaaGreatDoorRgNodes
import Derived.Test.YtpfpjcfacbfjaaaGreatDoorRgRing
import Derived.IntWalk
/-
  Layer 31: slices.DeleteFunc over points, with Remove's comparison.
-/
namespace Go.Proofs.YtpfpjcfacbfjaaaGreatDoor
open Go.Shelf Go.RowKit Go.Lib Go.Sort Rg
namespace Rg
/-- All points of other nodes. -/
def offN (x : Nm) (Q : List Pt) : List Pt := Q.filter fun p => decide (p.2 ≠ x)
theorem first_at {x : Nm} : ∀ {Q : List Pt}, (∃ p ∈ Q, p.2 = x) → ∃ k, ∃ hk : k < Q.length, Q[k].2 = x ∧ offN x (Q.take k) = Q.take k ∧ ∀ j, (hj : j < k) → (Q[j]'(by omega)).2 ≠ x
  | [], h => by obtain ⟨p, hp, _⟩ := h; cases hp
  | q :: Q, h => by
    by_cases hq : q.2 = x
    · exact ⟨0, by simp, hq, rfl, fun j hj => by omega⟩
    · have : ∃ p ∈ Q, p.2 = x := by
        obtain ⟨p, hp, e⟩ := h
        rcases List.mem_cons.1 hp with rfl | hp
        · exact absurd e hq
        · exact ⟨p, hp, e⟩
      obtain ⟨k, hk, e, ht, hf⟩ := first_at this
      refine ⟨k + 1, by simp; omega, e, ?_, fun j hj => ?_⟩
      · rw [List.take_succ_cons]
        unfold offN at ht ⊢
        rw [List.filter_cons_of_pos (by simpa using hq), ht]
      · match j, hj with
        | 0, _ => exact hq
        | j + 1, hj => exact hf j (by omega)
theorem offN_take {x : Nm} {Q : List Pt} {k : Nat} (h : k < Q.length) : offN x (Q.take (k + 1)) = offN x (Q.take k) ++ if Q[k].2 = x then [] else [Q[k]] := by
  unfold offN
  rw [← List.take_append_getElem h, List.filter_append]
  congr 1
  split
  · rename_i e; rw [List.filter_cons_of_neg (by simpa using e), List.filter_nil]
  · rename_i e; rw [List.filter_cons_of_pos (by simpa using e), List.filter_nil]
/-- Inside the loop: the row of points turns from Q to D. -/
structure DelAt (x : Nm) (Q D : List Pt) (a j : Nat) : Prop where
  len : D.length = Q.length
  aj : a < j
  jl : j ≤ Q.length
  done : D.take a = offN x (Q.take j)
  rest : D.drop j = Q.drop j
theorem DelAt.start {x : Nm} {Q : List Pt} {k : Nat} (hk : k < Q.length) (e : Q[k].2 = x) (ht : offN x (Q.take k) = Q.take k) : DelAt x Q Q k (k + 1) :=
  ⟨rfl, by omega, by omega, by rw [offN_take hk, if_pos e, List.append_nil, ht], rfl⟩
theorem DelAt.at_ {x : Nm} {Q D : List Pt} {a j : Nat} (h : DelAt x Q D a j) (hj : j < Q.length) : D[j]'(by rw [h.len]; exact hj) = Q[j] := by
  have := congrArg (fun l => l[0]?) h.rest
  simp only [List.getElem?_drop, Nat.add_zero] at this
  rw [List.getElem?_eq_getElem (by rw [h.len]; exact hj), List.getElem?_eq_getElem hj] at this
  exact Option.some.inj this
theorem DelAt.skip {x : Nm} {Q D : List Pt} {a j : Nat} (h : DelAt x Q D a j) (hj : j < Q.length) (e : Q[j].2 = x) : DelAt x Q D a (j + 1) :=
  ⟨h.len, by have := h.aj; omega, by omega, by rw [offN_take hj, if_pos e, List.append_nil, h.done], by
    have := congrArg (List.drop 1) h.rest
    rwa [List.drop_drop, List.drop_drop] at this⟩
theorem DelAt.keep {x : Nm} {Q D : List Pt} {a j : Nat} (h : DelAt x Q D a j) (hj : j < Q.length) (e : Q[j].2 ≠ x) : DelAt x Q (D.set a Q[j]) (a + 1) (j + 1) := by
  have haj := h.aj
  have hl := h.len
  refine ⟨by rw [List.length_set, hl], by omega, by omega, ?_, ?_⟩
  · rw [offN_take hj, if_neg e, ← h.done]
    have ha : a < (D.set a Q[j]).length := by rw [List.length_set]; omega
    rw [← List.take_append_getElem ha, List.getElem_set_self, List.take_set_of_le (Nat.le_refl _)]
  · rw [List.drop_set_of_lt (by omega)]
    have := congrArg (List.drop 1) h.rest
    rwa [List.drop_drop, List.drop_drop] at this
theorem DelAt.end_ {x : Nm} {Q D : List Pt} {a : Nat} (h : DelAt x Q D a Q.length) : D.take a = offN x Q := by rw [h.done, List.take_length]
end Rg
theorem pred_rm (x : Nm) (R : Nat) (w : World) (hR : w.cell? ⟨R, 0, none⟩ = some (.string (str x))) :
    PredBelow Tryz.prog 39 #[.pointer (some ⟨R, 0, none⟩)] (fun p : Pt => .agg (encP p).toArray) (fun p => decide (p.2 = x)) w := by
  intro W p hb
  have hB : R < w.heap.size := cell_lt hR
  have hB' := hb.size
  have hR' := (hb.cell (p := ⟨R, 0, none⟩) hB).trans hR
  have hlt : R < W.heap.size := by omega
  clear hR hB
  have hc : ((str p.2).toList == (str x).toList) = decide (p.2 = x) := by rw [str_toList, str_toList]; by_cases h : p.2 = x <;> simp [h]
  show Calls Tryz.prog 39 #[.agg #[.int .u64 p.1, .string (str p.2)], .pointer (some ⟨R, 0, none⟩)] W fun e w' => e = .returned (.bool (decide (p.2 = x))) ∧ Below w.heap.size w w'
  rw [← hc]
  generalize p.2 = y
  generalize p.1 = z
  clear hc
  go_enter Tryz.func39, Tryz.ntmps39
  go_wp2
  go_ret
  exact ⟨rfl, hb.alloc hb.size _⟩
/-- slices.IndexFunc with it. -/
theorem index_rm (x : Nm) (R g cap k : Nat) (Q : List Pt) (w : World) (hR : w.cell? ⟨R, 0, none⟩ = some (.string (str x))) (hS : Shp w g 63 (cap * 2)) (hq : ∀ j u, (pvs Q)[j]? = some u → w.cell? ⟨g, j, none⟩ = some u) (hQ : Q.length ≤ 1000000)
    (hk : k < Q.length) (he : Q[k].2 = x) (hf : ∀ j, (hj : j < k) → (Q[j]'(by omega)).2 ≠ x) :
    Calls Tryz.prog 57 #[.slice (some ⟨g, 0, none⟩) Q.length cap, .func (.func 39) #[] #[.pointer (some ⟨R, 0, none⟩)]] w fun e w' => e = .returned (.int .i64 (k : Int)) ∧ Below w.heap.size w w' := by
  have h := AnyQ.slices_IndexFunc Tryz.lh6 2 (fun _ => by kernel_rfl) (fun _ => by kernel_rfl) encP (fun _ => rfl) (fun p => decide (p.2 = x)) 39 #[.pointer (some ⟨R, 0, none⟩)]
    (enters_of Tryz.func39 (by kernel_rfl) rfl) g 0 Q.length cap Q w (pred_rm x R w hR) (Nat.le_refl _) (by omega) hS.lt (fun j hj i v hi => by
      rw [Nat.zero_add]
      rw [getElem!_pos Q j hj] at hi
      match i, hi with
      | 0, hi => simp [encP] at hi; rw [← hi]; exact hq _ _ (pvs_at0 hj)
      | 1, hi => simp [encP] at hi; rw [← hi]; exact hq _ _ (pvs_at1 hj)
      | i + 2, hi => simp [encP] at hi)
  rw [Lib.idxBy_hit (fun _ (p : Pt) => decide (p.2 = x)) Q Q.length k default hk (Nat.le_refl _) (by rw [getElem!_pos Q k hk]; exact decide_eq_true he) (fun j hj => by rw [getElem!_pos Q j (by omega)]; exact decide_eq_false (hf j hj))] at h
  exact h
end Go.Proofs.YtpfpjcfacbfjaaaGreatDoor
/-
  Layer 31: the walk of slices.DeleteFunc over points.
-/
namespace Go.Proofs.YtpfpjcfacbfjaaaGreatDoor
open Go.Shelf Go.RowKit Go.Lib Go.Sort Rg
theorem zc_mem (n : Nat) : ∀ v ∈ (Builtin.zeroCells #[Value.int .u64 0, .string ⟨#[]⟩] n).toList, v.oneCell' = true := by
  intro v hv
  unfold Builtin.zeroCells at hv
  rw [Array.toList_map, List.mem_map] at hv
  obtain ⟨i, -, rfl⟩ := hv
  have : i % 2 = 0 ∨ i % 2 = 1 := by omega
  rcases this with h | h
  · show (#[Value.int .u64 0, .string ⟨#[]⟩][i % 2]!).oneCell' = true
    rw [h]; rfl
  · show (#[Value.int .u64 0, .string ⟨#[]⟩][i % 2]!).oneCell' = true
    rw [h]; rfl
/-- clear of a row of points. -/
theorem run_clear_pts (w : World) (ty : TypeId) (b o n c : Nat) (hn : 0 < n) (hc : ∀ j, j < n * 2 → (w.cell? ⟨b, o + j, none⟩).isSome = true) (hf : ∀ j, j < n * 2 → w.frozen? ⟨b, o + j, none⟩ = false) :
    ∃ vs, vs.length = n * 2 ∧ (Builtin.clear_ #[49] ty #[.slice (some ⟨b, o, none⟩) n c]).run Tryz.prog w = .ok (.tuple #[]) (w.setCells b o vs) := by
  have hl : (Builtin.zeroCells #[Value.int .u64 0, .string ⟨#[]⟩] n).toList.length = n * 2 := by simp [Builtin.zeroCells]
  refine ⟨_, hl, ?_⟩
  have hst := run_storeCells_cells (P := Tryz.prog) b o (Builtin.zeroCells #[Value.int .u64 0, .string ⟨#[]⟩] n).toList 0 w (by rw [hl]; exact hc) (by rw [hl]; exact hf) (zc_mem n)
  simp only [Nat.add_zero] at hst
  obtain ⟨m, rfl⟩ : ∃ m, n = m + 1 := ⟨n - 1, by omega⟩
  have hz : ∀ w, (zeroValue 63).run Tryz.prog w = .ok (.agg #[.int .u64 0, .string ⟨#[]⟩]) w := fun _ => by kernel_rfl
  have hu : (underlying 49).run Tryz.prog w = .ok (.slice 63) w := run_underlying Tryz.underlying49 w
  simp [Builtin.clear_, hu, hz, Value.cells, hst]
theorem pvs_set {Q : List Pt} {a : Nat} {p : Pt} {w : World} {g m : Nat} {e : TypeId} (hS : Shp w g e m) (hm : Q.length * 2 ≤ m) (ha : a < Q.length) (h : ∀ j u, (pvs Q)[j]? = some u → w.cell? ⟨g, j, none⟩ = some u) :
    ∀ j u, (pvs (Q.set a p))[j]? = some u → (w.setCells g (a * 2) (encP p)).cell? ⟨g, j, none⟩ = some u := by
  have hk : ∀ k, k < (Q.set a p).length → k < Q.length := fun k hk => by rwa [List.length_set] at hk
  refine pvs_all (fun k hk' => ?_) (fun k hk' => ?_)
  · by_cases hka : k = a
    · subst hka
      have := sets_in hS (i := k * 2) (vs := encP p) (by simp [encP]; omega) (j := 0) (by simp [encP])
      rw [Nat.add_zero] at this
      rw [this, List.getElem_set_self]; rfl
    · rw [sets_out (by simp [encP]; omega), List.getElem_set_ne (fun e => hka e.symm)]
      exact h _ _ (pvs_at0 (hk k hk'))
  · by_cases hka : k = a
    · subst hka
      have := sets_in hS (i := k * 2) (vs := encP p) (by simp [encP]; omega) (j := 1) (by simp [encP])
      rw [this, List.getElem_set_self]; rfl
    · rw [sets_out (by simp [encP]; omega), List.getElem_set_ne (fun e => hka e.symm)]
      exact h _ _ (pvs_at1 (hk k hk'))
set_option maxRecDepth 100000 in
set_option maxHeartbeats 16000000 in
theorem dfunc_any (w : World) (B R g cap : Nat) (Q : List Pt) (x : Nm) (hO : Own w B 63 2 (.slice (some ⟨g, 0, none⟩) Q.length cap) Q.length (pvs Q)) (hR : w.cell? ⟨R, 0, none⟩ = some (.string (str x))) (hQ : Q.length ≤ 1000000) (hRg : R ≠ g) (hx : ∃ p ∈ Q, p.2 = x) :
    Calls Tryz.prog 38 #[.slice (some ⟨g, 0, none⟩) Q.length cap, .func (.func 39) #[] #[.pointer (some ⟨R, 0, none⟩)]] w fun e w' =>
      e = .returned (.slice (some ⟨g, 0, none⟩) (offN x Q).length cap) ∧ Own w' B 63 2 (.slice (some ⟨g, 0, none⟩) (offN x Q).length cap) (offN x Q).length (pvs (offN x Q)) ∧ Kp (fun b => b = g) w w' := by
  obtain ⟨hS, hBg, hnc, hcm⟩ := own_shp hO
  have hq : ∀ j u, (pvs Q)[j]? = some u → w.cell? ⟨g, j, none⟩ = some u := fun j u hu => own_at hO hu
  obtain ⟨k, hk, he, ht, hf⟩ := first_at hx
  have hix := index_rm x R g cap k Q w hR hS hq hQ hk he hf
  have hst := DelAt.start hk he ht
  have HR := Lib.hid hR
  have HS := Lib.hid hS
  have Hq := Lib.hid hq
  have Hst := Lib.hid hst
  clear hR hS hq hst hO he ht hf hx
  have hg := HS.out.lt
  have hRl := cell_lt HR.out
  have hkm : ((k : Int) == -1) = false := by rw [beq_eq_false_iff_ne]; omega
  unfold maxLen at hcm
  go_enter Tryz.func38, Tryz.ntmps38
  go_wp2_with fail
  refine hix.mono ?_
  rintro e w1 ⟨rfl, hb1⟩
  have hK1 := Lib.hid ((Kp.refl (fun b => b = g) w).below hb1)
  have hS1 := Lib.hid (HS.out.below hb1)
  have hq1 := Lib.hid (fun j u (hu : (pvs Q)[j]? = some u) => (hb1.cell (p := ⟨g, j, none⟩) hg).trans (Hq.out j u hu))
  clear hb1 hix
  go_wp2_with fail
  go_loopw [5, 6] (fun i5 i6 wr => ∃ (D : List Pt) (a j : Nat), i5 = .int .i64 (a : Int) ∧ i6 = .int .i64 (j : Int) ∧ j ≤ Q.length ∧ a < j ∧ Hid (DelAt x Q D a j) ∧ Hid (Kp (fun b => b = g) w wr) ∧ Hid (Shp wr g 63 (cap * 2)) ∧ Hid (∀ i u, (pvs D)[i]? = some u → wr.cell? ⟨g, i, none⟩ = some u)) (fun _ i _ => Q.length - (intOf i).toNat)
  case atStart => exact ⟨Q, k, k + 1, rfl, by go_num, by omega, by omega, Hst.out, hK1.out, hS1.out, hq1.out⟩
  case round =>
    obtain ⟨D, a, j, rfl, rfl, hj, haj, hD, hK, hSr, hqr⟩ := hrel
    clear hq1 hS1 hK1
    by_cases hlt : j < Q.length
    · have hjD : j < D.length := by rw [hD.out.len]; exact hlt
      have e0 : wr.cell? ⟨g, j * 2, none⟩ = some (.int .u64 D[j].1) := hqr.out _ _ (pvs_at0 hjD)
      have e1 : wr.cell? ⟨g, j * 2 + 1, none⟩ = some (.string (str D[j].2)) := hqr.out _ _ (pvs_at1 hjD)
      have hDj := hD.out.at_ hlt
      have k1 : (0 : Int) ≤ (j : Int) := by omega
      have k2 : (j : Int) < (Q.length : Int) := by omega
      have k3 : (0 : Int) ≤ (a : Int) := by omega
      have k4 : (a : Int) < (Q.length : Int) := by omega
      have hRw := (hK.out.cell (p := ⟨R, 0, none⟩) hRl hRg).trans HR.out
      have hsz := hK.out.size
      have hpr := fun (W : World) (hW : W.cell? ⟨R, 0, none⟩ = some (.string (str x))) => pred_rm x R W hW W D[j] (Below.refl _ _)
      have hskip := Lib.hid (fun (e : D[j].2 = x) => hD.out.skip hlt (by rw [← hDj]; exact e))
      have hkeep := Lib.hid (fun (e : D[j].2 ≠ x) => hD.out.keep hlt (by rw [← hDj]; exact e))
      rw [← hDj] at hkeep
      generalize D[j] = p at *
      obtain ⟨ph, pn⟩ := p
      clear hDj
      simp only [encP] at e0 e1 hpr
      have Hpr := Lib.hid hpr
      clear hpr
      have hnb := blk_new wr 63 #[.int .u64 ph, .string (str pn)]
      have hRa : (wr.alloc (.cells #[.int .u64 ph, .string (str pn)] 63)).cell? ⟨R, 0, none⟩ = some (.string (str x)) := Lib.cell?_alloc_some _ hRw
      have hKa := hK.out.alloc (.cells #[.int .u64 ph, .string (str pn)] 63)
      have hSa : Shp (wr.alloc (.cells #[.int .u64 ph, .string (str pn)] 63)) g 63 (cap * 2) := hSr.out.below ((Below.refl _ _).alloc (Nat.le_refl _) _)
      have hqa : ∀ i u, (pvs D)[i]? = some u → (wr.alloc (.cells #[.int .u64 ph, .string (str pn)] 63)).cell? ⟨g, i, none⟩ = some u := fun i u hu => Lib.cell?_alloc_some _ (hqr.out i u hu)
      have hsza : (wr.alloc (.cells #[.int .u64 ph, .string (str pn)] 63)).heap.size = wr.heap.size + 1 := by simp
      have Hnb := Lib.hid hnb
      have HRa := Lib.hid hRa
      have HKa := Lib.hid hKa
      have HSa := Lib.hid hSa
      have Hqa := Lib.hid hqa
      have Hsza := Lib.hid hsza
      clear hnb hRa hKa hSa hqa hsza hRw
      go_wp2_with fail
      refine (Hpr.out _ HRa.out).mono ?_
      rintro e w5 ⟨rfl, hb5⟩
      have hB5 := Lib.hid hb5
      have hK5 := Lib.hid (HKa.out.below hb5)
      have hS5 := Lib.hid (HSa.out.below hb5)
      have hn5 := Hnb.out.below hb5
      have f0 : w5.cell? ⟨wr.heap.size, 0, none⟩ = some (.int .u64 ph) := hn5.cell 0
      have f1 : w5.cell? ⟨wr.heap.size, 1, none⟩ = some (.string (str pn)) := hn5.cell 1
      have hq5 := Lib.hid (fun i u (hu : (pvs D)[i]? = some u) => (hb5.cell (p := ⟨g, i, none⟩) (by have := HSa.out.lt; exact this)).trans (Hqa.out i u hu))
      clear hb5 hn5 e0 e1
      by_cases hpn : pn = x
      · have hs := Lib.hid (hskip.out hpn)
        have hd : decide (pn = x) = true := decide_eq_true hpn
        rw [hd]
        clear hpn hd
        go_wp2_with fail
        go_roundw
        case rel => exact ⟨D, a, j + 1, rfl, by go_num, by omega, by omega, hs.out, hK5.out, hS5.out, hq5.out⟩
        case measure => simp [intOf]; omega
      · have hs := Lib.hid (hkeep.out hpn)
        have hd : decide (pn = x) = false := decide_eq_false hpn
        rw [hd]
        clear hpn hd
        have haD : a < D.length := by omega
        have t0 : w5.cell? ⟨g, a * 2, none⟩ = some (.int .u64 D[a].1) := hq5.out _ _ (pvs_at0 haD)
        have t1 : w5.cell? ⟨g, a * 2 + 1, none⟩ = some (.string (str D[a].2)) := hq5.out _ _ (pvs_at1 haD)
        have z0 : w5.frozen? ⟨g, a * 2, none⟩ = false := hS5.out.frozen _
        have z1 : w5.frozen? ⟨g, a * 2 + 1, none⟩ = false := hS5.out.frozen _
        have hset := Lib.hid (pvs_set (p := (ph, pn)) hS5.out (by rw [hD.out.len]; omega) haD hq5.out)
        have hKs := Lib.hid (sets_kp g (encP (ph, pn)) (a * 2) hK5.out)
        have hSs := Lib.hid (hS5.out.sets g (encP (ph, pn)) (a * 2))
        generalize D[a].1 = oh at t0
        generalize D[a].2 = on at t1
        go_wp2_with fail
        go_roundw
        case rel => exact ⟨_, a + 1, j + 1, by go_num, by go_num, by omega, by omega, hs.out, hKs.out, hSs.out, hset.out⟩
        case measure => simp [intOf]; omega
    · have hjQ : j = Q.length := by omega
      subst hjQ
      have hfin := Lib.hid hD.out.end_
      have hlD := hD.out.len
      have hoff : (offN x Q).length = a := by rw [← hfin.out, List.length_take]; omega
      have hcl : ∃ vs : List Value, vs.length = (Q.length - a) * 2 ∧ ∀ ty, (Builtin.clear_ #[49] ty #[.slice (some ⟨g, a * 2, none⟩) (Q.length - a) (cap - a)]).run Tryz.prog wr = .ok (.tuple #[]) (wr.setCells g (a * 2) vs) := by
        have hh := fun ty => run_clear_pts wr ty g (a * 2) (Q.length - a) (cap - a) (by omega) (fun t ht => hSr.out.some (by omega)) (fun t ht => hSr.out.frozen _)
        obtain ⟨vs, hv, h0⟩ := hh 0
        exact ⟨vs, hv, fun ty => h0⟩
      obtain ⟨vs, hvl, hcl⟩ := hcl
      have k3 : (0 : Int) ≤ (a : Int) := by omega
      have k4 : (a : Int) ≤ (Q.length : Int) := by omega
      have k5 : a ≠ cap := by omega
      have k6 : a ≤ Q.length := by omega
      have k7 : Q.length ≤ cap := hnc
      have Hvl := Lib.hid hvl
      have Hoff := Lib.hid hoff
      clear hvl hoff
      go_wp2_with fail
      go_ret
      refine ⟨by rw [Hoff.out]; rfl, ?_, sets_kp g vs (a * 2) hK.out⟩
      refine own_mk (hSr.out.sets g vs (a * 2)) hBg (by rw [Hoff.out]; omega) (by unfold maxLen; omega) (pvs_len _) (fun i u hu => ?_)
      have hi : i < a * 2 := by
        have := (List.getElem?_eq_some_iff.1 hu).1
        rwa [pvs_len, Hoff.out] at this
      rw [sets_out (Or.inl hi)]
      refine hqr.out i u ?_
      rw [← hfin.out] at hu
      have hpd : pvs D = pvs (D.take a) ++ pvs (D.drop a) := by unfold pvs; rw [← List.flatMap_append, List.take_append_drop]
      rw [hpd, List.getElem?_append_left (by rw [pvs_len, List.length_take]; omega)]
      exact hu
end Go.Proofs.YtpfpjcfacbfjaaaGreatDoor
/-
  Layer 31: Remove.
-/
namespace Go.Proofs.YtpfpjcfacbfjaaaGreatDoor
open Go.Shelf Go.RowKit Go.Lib Go.Sort Rg
/-- Remove of a node that is not there. -/
theorem rem_no (w : World) (B l : Nat) (v1 v2 : Value) (N : List Nm) (Q : List Pt) (x : Nm) (hr : Ring2 w B l v1 v2 N Q) (hA : Asc N) (hN : N.length ≤ 100) (hm : x ∉ N) :
    Calls Tryz.prog 20 #[.pointer (some ⟨l, 0, none⟩), .string (str x)] w fun e w' => e = .returned (.bool false) ∧ Below w.heap.size w w' := by
  have hr2 := hr.below (w' := w.alloc (.cells #[.string (str x)] 9)) ((Below.refl _ _).alloc (Nat.le_refl _) _)
  have hb0 := Lib.hid (show Below w.heap.size w (w.alloc (.cells #[.string (str x)] 9)) from (Below.refl _ _).alloc (Nat.le_refl _) _)
  have hR : (w.alloc (.cells #[.string (str x)] 9)).cell? ⟨w.heap.size, 0, none⟩ = some (.string (str x)) := (blk_new w 9 #[.string (str x)]).cell 0
  have hl0 : (w.alloc (.cells #[.string (str x)] 9)).cell? ⟨l, 0, none⟩ = some v1 := hr2.blk.cell 0
  have hbs := fun (W : World) (hb : Below (w.alloc (.cells #[.string (str x)] 9)).heap.size (w.alloc (.cells #[.string (str x)] 9)) W) => bsearch_any W v1 N x hA (by omega) (Rd.own (hr2.below hb).nodes)
  have hm' : decide (x ∈ N) = false := decide_eq_false hm
  simp only [hm'] at hbs
  have Hbs := Lib.hid hbs
  have c0 : w.cell? ⟨l, 0, none⟩ = some v1 := hr.blk.cell 0
  have hlt := hr.blk.lt
  clear hbs hm' hm hr hr2
  go_enter Tryz.func20, Tryz.ntmps20
  go_wp2_with fail
  go_region_with (go_at_call 21; refine (Hbs.out _ (by first | with_reducible exact Below.refl _ _ | with_reducible exact below_drewN (Below.refl _ _) _ | with_reducible exact (Below.refl _ _).drew)).mono ?_; rintro e w1 ⟨rfl, q, hw1⟩; have hW1 := Lib.hid hw1; clear hw1)
  all_goals
    go_wp2_with fail
    go_ret
    refine ⟨rfl, ?_⟩
    rw [hW1.out]
    first | exact below_drewN (below_drewN hb0.out _) _ | exact below_drewN hb0.out.drew _ | exact below_drewN hb0.out _ | exact hb0.out
/-- Remove of a node. -/
theorem rem_yes (w : World) (B l : Nat) (v1 v2 : Value) (N : List Nm) (Q : List Pt) (x : Nm) (hr : Ring2 w B l v1 v2 N Q) (hA : Asc N) (hN : N.length ≤ 100) (hQ : Q.length ≤ 1000000) (hm : x ∈ N) (hx : ∃ p ∈ Q, p.2 = x) :
    Calls Tryz.prog 20 #[.pointer (some ⟨l, 0, none⟩), .string (str x)] w fun e w' => e = .returned (.bool true) ∧ Kp (fun b => b = l ∨ v1.ownBlock = some b ∨ v2.ownBlock = some b) w w' ∧ ∃ v1' v2', Ring2 w' B l v1' v2' (N.eraseIdx (pos N x)) (offN x Q) := by
  have hpm := (pos_mem hA).1 hm
  obtain ⟨hpl, hpe⟩ := hpm
  obtain ⟨g1, p1, rfl⟩ := own_some hr.nodes (by omega)
  obtain ⟨g2, p2, rfl⟩ := own_some hr.points (by obtain ⟨p, hp, -⟩ := hx; exact List.length_pos_of_mem hp)
  have hb0' : Below w.heap.size w (w.alloc (.cells #[.string (str x)] 9)) := (Below.refl _ _).alloc (Nat.le_refl _) _
  have hr2 := hr.below hb0'
  have hb0 := Lib.hid hb0'
  have hkR := blk_new w 9 #[.string (str x)]
  have hR : (w.alloc (.cells #[.string (str x)] 9)).cell? ⟨w.heap.size, 0, none⟩ = some (.string (str x)) := hkR.cell 0
  have hl0 : (w.alloc (.cells #[.string (str x)] 9)).cell? ⟨l, 0, none⟩ = some (.slice (some ⟨g1, 0, none⟩) N.length p1) := hr2.blk.cell 0
  have hbs := fun (W : World) (hb : Below (w.alloc (.cells #[.string (str x)] 9)).heap.size (w.alloc (.cells #[.string (str x)] 9)) W) => bsearch_any W _ N x hA (by omega) (Rd.own (hr2.below hb).nodes)
  have hm' : decide (x ∈ N) = true := decide_eq_true hm
  simp only [hm'] at hbs
  have Hbs := Lib.hid hbs
  have Hr2 := Lib.hid hr2
  have HkR := Lib.hid hkR
  have c0 : w.cell? ⟨l, 0, none⟩ = some (.slice (some ⟨g1, 0, none⟩) N.length p1) := hr.blk.cell 0
  have hlt := hr.blk.lt
  have Hgl := Lib.hid (And.intro (World.ownsRow.lt hr.nodes g1 rfl).2 (World.ownsRow.lt hr.points g2 rfl).2)
  clear hbs hm' hm hr hr2 hb0' hkR
  go_enter Tryz.func20, Tryz.ntmps20
  go_upto_region 3 with fail
  go_cut [3, 5, 6] from 3 (fun c3 c5 c6 wx => c3 = .pointer (some ⟨w.heap.size, 0, none⟩) ∧ c5 = .int .i64 (pos N x : Nat) ∧ c6 = .bool true ∧ Hid (Below (w.alloc (.cells #[.string (str x)] 9)).heap.size (w.alloc (.cells #[.string (str x)] 9)) wx))
  case first =>
    go_region_with (go_at_call 21; refine (Hbs.out _ (by first | with_reducible exact Below.refl _ _ | with_reducible exact below_drewN (Below.refl _ _) _ | with_reducible exact (Below.refl _ _).drew)).mono ?_; rintro e w1 ⟨rfl, q, hw1⟩; have hW1 := Lib.hid (show Below (w.alloc (.cells #[.string (str x)] 9)).heap.size (w.alloc (.cells #[.string (str x)] 9)) w1 by rw [hw1]; first | exact below_drewN (below_drewN (Below.refl _ _) _) _ | exact below_drewN ((Below.refl _ _).drew) _ | exact below_drewN (Below.refl _ _) _ | exact Below.refl _ _); clear hw1)
    all_goals
      go_wp2_with fail
      go_meet
      exact ⟨rfl, rfl, rfl, hW1.out⟩
  case rest =>
    obtain ⟨rfl, rfl, rfl, hb1⟩ := hcut
    have hr1 := Hr2.out.below hb1.out
    have hk1 := HkR.out.below hb1.out
    have hB1 := Lib.hid ((Kp.refl (fun b => b = l ∨ (Value.slice (some ⟨g1, 0, none⟩) N.length p1).ownBlock = some b ∨ (Value.slice (some ⟨g2, 0, none⟩) Q.length p2).ownBlock = some b) w).below (hb0.out.trans (hb1.out.mono (by simp))))
    have Hr1 := Lib.hid hr1
    have Hk1 := Lib.hid hk1
    clear hR hl0 Hbs Hr2 HkR c0 hb1 hk1
    have d1 : wc.cell? ⟨l, 0, none⟩ = some (.slice (some ⟨g1, 0, none⟩) N.length p1) := hr1.blk.cell 0
    have hl1 := hr1.blk.lt
    have hde := delete_nm wc B g1 p1 (pos N x) N hpl hr1.nodes
    have hps : IntKind.i64.wrap ((pos N x : Nat) + 1 : Int) = (pos N x : Nat) + 1 := IntWalk.i64_in _ (by omega)
    clear hr1
    have hgl : g1 < w.heap.size ∧ g2 < w.heap.size := Hgl.out
    have HBl := Lib.hid hlt
    generalize hps' : pos N x = k at *
    generalize w.heap.size = R at *
    have hRg1 : R ≠ g1 := by omega
    have hRg2 : R ≠ g2 := by omega
    have hRl : R ≠ l := by omega
    clear hgl
    go_wp2_with fail
    refine hde.mono ?_
    rintro e w2 ⟨rfl, hO2, hK2⟩
    have hKv : Kp (fun b => (Value.slice (some ⟨g1, 0, none⟩) N.length p1).ownBlock = some b) wc w2 := hK2.mono (fun b _ e => by subst e; rfl)
    have f2 := Hr1.out.blk.kp Hr1.out.n1 hKv
    have f3 : w2.cell? ⟨l, 0, none⟩ = some (.slice (some ⟨g1, 0, none⟩) N.length p1) := f2.cell 0
    have f4 := f2.frozen 0
    have hk2 := Hk1.out.kp (fun e => hRg1 e) hK2
    obtain ⟨hr3, hG3⟩ := Hr1.out.mid (Grew.refl wc l _ _) (Below.refl _ _) hKv (newer_of (v' := .slice (some ⟨g1, 0, none⟩) (N.length - 1) p1) (Or.inl rfl)) (N' := N.eraseIdx k) (by rw [List.length_eraseIdx_of_lt hpl]; exact hO2)
    have hk3 := hk2.far (p := ⟨l, 0, none⟩) (fun e => hRl e) (.slice (some ⟨g1, 0, none⟩) (N.length - 1) p1)
    have hl2 := f2.lt
    have Hr3 := Lib.hid hr3
    have HG3 := Lib.hid hG3
    have Hk3 := Lib.hid hk3
    clear hde hK2 hKv hO2 f2 hk2 hr3 hG3 hk3 d1
    go_upto_region 7 with fail
    generalize w2.setCell ⟨l, 0, none⟩ (.slice (some ⟨g1, 0, none⟩) (N.length - 1) p1) = w3 at *
    clear f3 f4 hl2
    have hr3 := Hr3.out
    have d1 : w3.cell? ⟨l, 1, none⟩ = some (.slice (some ⟨g2, 0, none⟩) Q.length p2) := hr3.blk.cell 1
    have d3 := hr3.blk.lt
    have hdf := dfunc_any w3 B R g2 p2 Q x hr3.points (Hk3.out.cell 0) hQ hRg2 hx
    clear hr3
    go_wp2_with fail
    refine hdf.mono ?_
    rintro e w4 ⟨rfl, hO4, hK4⟩
    have hKv : Kp (fun b => (Value.slice (some ⟨g2, 0, none⟩) Q.length p2).ownBlock = some b) w3 w4 := hK4.mono (fun b _ e => by subst e; rfl)
    have f2 := Hr3.out.blk.kp Hr3.out.n2 hKv
    have f3 : w4.cell? ⟨l, 1, none⟩ = some (.slice (some ⟨g2, 0, none⟩) Q.length p2) := f2.cell 1
    have f4 := f2.frozen 1
    have hl4 := f2.lt
    obtain ⟨hr5, hG5⟩ := Hr3.out.mid2 HG3.out (Below.refl _ _) hKv (newer_of (v' := .slice (some ⟨g2, 0, none⟩) (offN x Q).length p2) (Or.inl rfl)) hO4
    have Hr5 := Lib.hid hr5
    have HG5 := Lib.hid hG5
    clear hdf hK4 hKv hO4 f2 hr5 hG5 d1
    go_wp2_with fail
    go_ret
    exact ⟨rfl, hB1.out.trans HG5.out.kp, _, _, by rw [hps']; exact Hr5.out⟩
end Go.Proofs.YtpfpjcfacbfjaaaGreatDoor
