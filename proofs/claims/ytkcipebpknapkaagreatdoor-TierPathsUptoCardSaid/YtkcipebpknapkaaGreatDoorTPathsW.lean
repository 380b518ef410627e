/-
  The walk of TierPaths.
-/
import Derived.Test.YtkcipebpknapkaaGreatDoorTSteadyW
import Derived.Deep.RegionLaw
import Derived.Deep.DrawnRows
import Derived.Deep.CutRange
namespace Go.Proofs.YtkcipebpknapkaaGreatDoor
open Go.Shelf Go.RowKit Go.Lib Go.Sort Rg Syn Ti
section
variable {P : Program}
theorem run_append_nilx (w : World) (t ty e : TypeId) (i : TypeInfo) (ht : P.underlying t = some (.slice e)) (hi : P.info? e = some i) (A : Option Addr) (n cap c : Nat) (hn : n ≤ cap) :
    (Builtin.append_ #[t, t] ty #[.slice A n cap, .slice none 0 c]).run P w = .ok (.slice A n cap) w := by
  cases A <;> simp [Builtin.append_, run_underlying ht, sizeOf, typeInfo, hi, Builtin.lenOf, Builtin.firstCells, hn, storeCells]
/-- append of a slice that reads as news onto an owned row, at a step of a region that draws its order. -/
theorem stepR_push {ops : Array Oper} {o : Oper} {a : Act} {K : Act → World → Prop} {Q : Exit → Act → World → Prop} {E : Prop} {w : World} (t e : TypeId) (z : Value) (size bytes : Nat) (s x : Operand)
    (hgd : o.guard = none) (ho : o.op = .call { callee := .builtin .append, args := #[s, x], argTypes := #[t, t] })
    (ht : P.underlying t = some (.slice e)) (hi : (P.info? e).map (fun i => (i.zero, i.size, i.bytes)) = some (some z, size, bytes)) (hzs : z.cells.size = size) (hsz : 0 < size) (hby : bytes ≤ 1000)
    {B n m c : Nat} {v : Value} {xs news : List Value} {A : Option Addr} (hs : a.eval s = v) (hown : Own w B e size v n xs) (hx : a.eval x = .slice A m c) (hR : Rd w size (.slice A m c) m news)
    (h1 : ∀ u ∈ news, u.oneCell' = true) (hn : n + m ≤ 10000000000) (hB : B ≤ w.heap.size)
    (h : ∀ v' w', Own w' B e size v' (n + m) (xs ++ news) → w.grownBy w' v.ownBlock → K (a.put o.dst v') w') :
    if Region.wanted o (yielded ops a.tmps) = true then Oper.wp P o a w K Q else E := by
  have hwt : Region.wanted o (yielded ops a.tmps) = true := by simp [Region.wanted, hgd]
  rw [if_pos hwt]
  cases hP : P.info? e with
  | none => rw [hP] at hi; cases hi
  | some i =>
    rw [hP] at hi
    simp only [Option.map_some, Option.some.injEq, Prod.mk.injEq] at hi
    obtain ⟨hz, hsize, hbytes⟩ := hi
    have hbb : (n + m) * bytes ≤ 140737488355328 := Nat.le_trans (Nat.mul_le_mul hn hby) (by decide)
    obtain ⟨A', c', e', hc, hl, hr⟩ := hR
    cases e'
    cases A with
    | some ad =>
      have hcel : ∀ j u, news[j]? = some u → w.cell? (ad.add j) = some u := fun j u hu => by
        have hm : 0 < m := by
          rcases Nat.eq_zero_or_pos m with h0 | h0
          · subst h0
            rw [Nat.zero_mul] at hl
            rw [List.eq_nil_of_length_eq_zero hl] at hu; cases hu
          · exact h0
        obtain ⟨b, o', e1, hlt, hx'⟩ := hr hm
        cases e1
        have hadd : (⟨b, o', none⟩ : Addr).add j = ⟨b, o' + j, none⟩ := by unfold Addr.add; split <;> simp_all
        rw [hadd]; exact hx' j u hu
      obtain ⟨v', w', hr, h2, h3, h4, h5⟩ := run_append_own_at (P := P) w B t o.type e i z size bytes ht hP hz hsize hbytes hzs hsz v n xs hown ad m c news hl hcel h1 (by unfold maxLen; omega) hbb hB
      unfold Oper.wp execOp
      simp only [ho, resolve, invoke, builtin, Sem.run_bind, Sem.run_pure, Result.andThen_ok, List.map_toArray, List.map_cons, List.map_nil, hs, hx, hr]
      exact h v' w' h2 h3
    | none =>
      have hm : m = 0 := by
        rcases Nat.eq_zero_or_pos m with h0 | h0
        · exact h0
        · obtain ⟨b, o', e1, -⟩ := hr h0; cases e1
      subst hm
      rw [Nat.zero_mul] at hl
      have hnil := List.eq_nil_of_length_eq_zero hl
      subst hnil
      have hk := h v w (by rw [Nat.add_zero, List.append_nil]; exact hown) ⟨rfl, rfl, rfl, Nat.le_refl _, fun _ _ _ => rfl⟩
      obtain ⟨Av, cv, rfl, hcv, -, -⟩ := Rd.own hown
      have hrn := run_append_nilx (P := P) w t o.type e i ht hP Av n cv c hcv
      unfold Oper.wp execOp
      simp only [ho, resolve, invoke, builtin, Sem.run_bind, Sem.run_pure, Result.andThen_ok, List.map_toArray, List.map_cons, List.map_nil, hs, hx, hrn]
      exact hk
end
def u8t (zs : List Int) : List Value := zs.map fun z => .int .u8 z
theorem u8t_at {zs : List Int} {k : Nat} (h : k < zs.length) : (u8t zs)[k]? = some (.int .u8 zs[k]) := by simp [u8t, h]
namespace Ti
theorem edge_res {O up p : List Bytes} {a : Bytes} (t : Int) :
    (edS (atN p a) (cands O up p a) t = [] ∧ edE (atN p a) (cands O up p a) t ≠ 0) ∨ (edE (atN p a) (cands O up p a) t = 0 ∧ edS (atN p a) (cands O up p a) t ∉ p ++ [a] ∧ p.length + 1 ≤ 4) := by
  by_cases hb : atN p a = 0
  · obtain ⟨h1, h2, h3, h4⟩ := atN_zero hb
    rw [hb]
    by_cases hn : t < 0
    · exact Or.inl ⟨(edE_neg hn).1, by rw [(edE_neg hn).2]; decide⟩
    · obtain ⟨k, rfl⟩ : ∃ k : Nat, t = (k : Int) := ⟨t.toNat, by omega⟩
      by_cases hk : (cands O up p a).length < k
      · exact Or.inl ⟨(edE_past hk).1, by rw [(edE_past hk).2]; decide⟩
      · obtain ⟨e1, e2⟩ := edS_at (c := cands O up p a) (i := k) (by omega)
        refine Or.inr ⟨e2, ?_, h1⟩
        rw [e1]
        rcases Nat.lt_or_ge k (cands O up p a).length with h | h
        · rw [all_at h]
          obtain ⟨-, -, c3, c4⟩ := cands_mem.1 (List.getElem_mem h)
          intro hm
          rcases List.mem_append.1 hm with hm | hm
          · exact c3 hm
          · rw [List.mem_singleton] at hm; exact c4 hm
        · have : k = (cands O up p a).length := by omega
          subst this
          rw [all_last]
          intro hm
          rcases List.mem_append.1 hm with hm | hm
          · exact h3 hm
          · rw [List.mem_singleton] at hm; exact h2 hm.symm
  · exact Or.inl ⟨(edE_bad hb _ t).1, by rw [(edE_bad hb _ t).2]; exact hb⟩
theorem shield_res {p : List Bytes} {a : Bytes} : (shT p a = [] ∧ shN p a ≠ 0) ∨ (shN p a = 0 ∧ shT p a ∉ p ++ [a] ∧ p.length + 1 ≤ 4) := by
  by_cases h : shN p a = 0
  · have ha : atN p a = 0 := by
      unfold shN at h
      split at h
      · next h' => exact h'
      · exact h
    obtain ⟨h1, h2, h3, h4⟩ := atN_zero ha
    refine Or.inr ⟨h, ?_, h1⟩
    unfold shT
    rw [if_pos h]
    intro hm
    rcases List.mem_append.1 hm with hm | hm
    · exact h3 hm
    · rw [List.mem_singleton] at hm; exact h2 hm.symm
  · exact Or.inl ⟨by unfold shT; rw [if_neg h], h⟩
end Ti
set_option maxRecDepth 100000 in
set_option maxHeartbeats 16000000 in
theorem paths_walk (w : World) (vs vu : Value) (AP : Option Addr) (cP : Nat) (sh up pa : List Bytes) (self key : Bytes) (tries : Int) (h0 : Rd w 1 vs sh.length (strs sh)) (h1 : Rd w 1 vu up.length (strs up)) (h2 : Rd w 1 (.slice AP pa.length cP) pa.length (strs pa)) (_ : AP = none → cP = 0) (hS : sumB sh + sumB up + sumB pa ≤ 4611686018427387904) (hs : self.length ≤ 1048576) (hk : key.length ≤ 1048576) (vt : Value) (ts : List Int) (hT : Rd w 1 vt ts.length (u8t ts)) (htz : ∀ z ∈ ts, 0 ≤ z ∧ z ≤ 255) (htl : ts.length ≤ 1048576) :
    Calls Tryz.prog 6 #[.agg (caseC vs vu (.slice AP pa.length cP) self key tries), vt] w fun e w' => e = .returned (.bool true) ∧ Below w.heap.size w w' := by
  obtain ⟨A0, c0, rfl, -, -, -⟩ := id h0
  obtain ⟨A1, c1, rfl, -, -, -⟩ := id h1
  have hB1 := Lib.hid (show Below w.heap.size w (w.alloc (.cells (caseC (.slice A0 sh.length c0) (.slice A1 up.length c1) (.slice AP pa.length cP) self key tries) 24)) from (Below.refl _ _).alloc (Nat.le_refl _) _)
  have hC := blk_new w 24 (caseC (.slice A0 sh.length c0) (.slice A1 up.length c1) (.slice AP pa.length cP) self key tries)
  have H0 := Lib.hid h0
  have H1 := Lib.hid h1
  have H2 := Lib.hid h2
  have hl3 := Lib.hid (fun X (hX : Below w.heap.size w X) => (show Calls Tryz.prog 7 #[.slice (some ⟨X.heap.size, 0, none⟩) 3 3] (X.alloc (.cells #[.slice A0 sh.length c0, .slice A1 up.length c1, .slice AP pa.length cP] 22)) fun e w' => e = .returned (.bool (decide (2000 < sumB sh + sumB up + sumB pa))) ∧ w' = X.alloc (.cells #[.slice A0 sh.length c0, .slice A1 up.length c1, .slice AP pa.length cP] 22) from by
    have hb : Below w.heap.size w (X.alloc (.cells #[.slice A0 sh.length c0, .slice A1 up.length c1, .slice AP pa.length cP] 22)) := hX.alloc hX.size _
    exact long3_any sh up pa _ _ _ X.heap.size _ (blk_new X 22 _) (h0.below hb) (h1.below hb) (h2.below hb) hS))
  clear h0 h1 h2
  have hss : (str self).size = self.length := str_size self
  have hks : (str key).size = key.length := str_size key
  obtain ⟨AT, cT, rfl, -, -, -⟩ := id hT
  have HT := Lib.hid hT
  have Htz := Lib.hid htz
  clear hT htz
  have wS : IntKind.i64.wrap (((str self).size : Int) + ((str key).size : Int)) = ((str self).size : Int) + ((str key).size : Int) := IntWalk.i64_in _ (by omega)
  have hlt0 := hC.lt
  have HC := Lib.hid hC
  clear hC
  by_cases hS2 : 2000 < sumB sh + sumB up + sumB pa
  · rw [decide_eq_true hS2] at hl3
    clear hS2
    go_enter Tryz.func6, Tryz.ntmps6
    go_upto_region 1 with fail
    generalize w.alloc (.cells (caseC (.slice A0 sh.length c0) (.slice A1 up.length c1) (.slice AP pa.length cP) self key tries) 24) = wB at *
    generalize w.heap.size = g at HC hlt0 ⊢
    have d0 : wB.cell? ⟨g, 0, none⟩ = some (.slice A0 sh.length c0) := HC.out.cell 0
    have d1 : wB.cell? ⟨g, 1, none⟩ = some (.slice A1 up.length c1) := HC.out.cell 1
    have d2 : wB.cell? ⟨g, 2, none⟩ = some (.slice AP pa.length cP) := HC.out.cell 2
    go_wp2_with fail
    refine (hl3.out wB hB1.out).mono ?_
    rintro e w1 ⟨rfl, rfl⟩
    have hB2 := Lib.hid (show Below w.heap.size w (wB.alloc (.cells #[.slice A0 sh.length c0, .slice A1 up.length c1, .slice AP pa.length cP] 22)) from hB1.out.alloc hB1.out.size _) 
    have hC2 := Lib.hid (HC.out.alloc (.cells #[.slice A0 sh.length c0, .slice A1 up.length c1, .slice AP pa.length cP] 22))
    clear HC d0 d1 d2
    have HC := hC2
    generalize wB.alloc (.cells #[.slice A0 sh.length c0, .slice A1 up.length c1, .slice AP pa.length cP] 22) = w2 at *
    clear hC2
    have hgl := HC.out.lt
    have d0 : w2.cell? ⟨g, 0, none⟩ = some (.slice A0 sh.length c0) := HC.out.cell 0
    have d1 : w2.cell? ⟨g, 1, none⟩ = some (.slice A1 up.length c1) := HC.out.cell 1
    have d2 : w2.cell? ⟨g, 2, none⟩ = some (.slice AP pa.length cP) := HC.out.cell 2
    go_wp2_with fail
    refine (hl3.out w2 hB2.out).mono ?_
    rintro e w3 ⟨rfl, rfl⟩
    have hB3 := Lib.hid (show Below w.heap.size w (w2.alloc (.cells #[.slice A0 sh.length c0, .slice A1 up.length c1, .slice AP pa.length cP] 22)) from hB2.out.alloc hB2.out.size _)
    go_wp2_with fail
    go_ret
    exact ⟨rfl, hB3.out⟩
  · rw [decide_eq_false hS2] at hl3
    by_cases h500 : (500 < self.length + key.length) ∨ 10 < ts.length
    · rcases Nat.lt_or_ge 500 (self.length + key.length) with h5 | h5
      · have g5 : (500 : Int) < ((str self).size : Int) + ((str key).size : Int) := by omega
        clear h500 h5
        go_enter Tryz.func6, Tryz.ntmps6
        go_upto_region 1 with fail
        generalize w.alloc (.cells (caseC (.slice A0 sh.length c0) (.slice A1 up.length c1) (.slice AP pa.length cP) self key tries) 24) = wB at *
        generalize w.heap.size = g at HC hlt0 ⊢
        have d0 : wB.cell? ⟨g, 0, none⟩ = some (.slice A0 sh.length c0) := HC.out.cell 0
        have d1 : wB.cell? ⟨g, 1, none⟩ = some (.slice A1 up.length c1) := HC.out.cell 1
        have d2 : wB.cell? ⟨g, 2, none⟩ = some (.slice AP pa.length cP) := HC.out.cell 2
        have d3 : wB.cell? ⟨g, 3, none⟩ = some (.string (str self)) := HC.out.cell 3
        have d4 : wB.cell? ⟨g, 4, none⟩ = some (.string (str key)) := HC.out.cell 4
        go_wp2_with fail
        refine (hl3.out wB hB1.out).mono ?_
        rintro e w1 ⟨rfl, rfl⟩
        have hB2 := Lib.hid (show Below w.heap.size w (wB.alloc (.cells #[.slice A0 sh.length c0, .slice A1 up.length c1, .slice AP pa.length cP] 22)) from hB1.out.alloc hB1.out.size _) 
        have hC2 := Lib.hid (HC.out.alloc (.cells #[.slice A0 sh.length c0, .slice A1 up.length c1, .slice AP pa.length cP] 22))
        clear HC d0 d1 d2 d3 d4
        have HC := hC2
        generalize wB.alloc (.cells #[.slice A0 sh.length c0, .slice A1 up.length c1, .slice AP pa.length cP] 22) = w2 at *
        clear hC2
        have hgl := HC.out.lt
        have d0 : w2.cell? ⟨g, 0, none⟩ = some (.slice A0 sh.length c0) := HC.out.cell 0
        have d1 : w2.cell? ⟨g, 1, none⟩ = some (.slice A1 up.length c1) := HC.out.cell 1
        have d2 : w2.cell? ⟨g, 2, none⟩ = some (.slice AP pa.length cP) := HC.out.cell 2
        have d3 : w2.cell? ⟨g, 3, none⟩ = some (.string (str self)) := HC.out.cell 3
        have d4 : w2.cell? ⟨g, 4, none⟩ = some (.string (str key)) := HC.out.cell 4
        go_wp2_with fail
        refine (hl3.out w2 hB2.out).mono ?_
        rintro e w3 ⟨rfl, rfl⟩
        have hB3 := Lib.hid (show Below w.heap.size w (w2.alloc (.cells #[.slice A0 sh.length c0, .slice A1 up.length c1, .slice AP pa.length cP] 22)) from hB2.out.alloc hB2.out.size _)
        have hC3 := Lib.hid (HC.out.alloc (.cells #[.slice A0 sh.length c0, .slice A1 up.length c1, .slice AP pa.length cP] 22))
        clear HC d0 d1 d2 d3 d4
        have HC := hC3
        generalize w2.alloc (.cells #[.slice A0 sh.length c0, .slice A1 up.length c1, .slice AP pa.length cP] 22) = w3 at *
        clear hC3 hgl
        have hgl := HC.out.lt
        have d0 : w3.cell? ⟨g, 0, none⟩ = some (.slice A0 sh.length c0) := HC.out.cell 0
        have d1 : w3.cell? ⟨g, 1, none⟩ = some (.slice A1 up.length c1) := HC.out.cell 1
        have d2 : w3.cell? ⟨g, 2, none⟩ = some (.slice AP pa.length cP) := HC.out.cell 2
        have d3 : w3.cell? ⟨g, 3, none⟩ = some (.string (str self)) := HC.out.cell 3
        have d4 : w3.cell? ⟨g, 4, none⟩ = some (.string (str key)) := HC.out.cell 4
        go_wp2_with fail
        go_ret
        exact ⟨rfl, hB3.out⟩
      · have g5 : ¬ (500 : Int) < ((str self).size : Int) + ((str key).size : Int) := by omega
        have g6 : 10 < ts.length := by omega
        have g7 : (10 : Int) < (ts.length : Int) := by omega
        clear h500 h5
        go_enter Tryz.func6, Tryz.ntmps6
        go_upto_region 1 with fail
        generalize w.alloc (.cells (caseC (.slice A0 sh.length c0) (.slice A1 up.length c1) (.slice AP pa.length cP) self key tries) 24) = wB at *
        generalize w.heap.size = g at HC hlt0 ⊢
        have d0 : wB.cell? ⟨g, 0, none⟩ = some (.slice A0 sh.length c0) := HC.out.cell 0
        have d1 : wB.cell? ⟨g, 1, none⟩ = some (.slice A1 up.length c1) := HC.out.cell 1
        have d2 : wB.cell? ⟨g, 2, none⟩ = some (.slice AP pa.length cP) := HC.out.cell 2
        have d3 : wB.cell? ⟨g, 3, none⟩ = some (.string (str self)) := HC.out.cell 3
        have d4 : wB.cell? ⟨g, 4, none⟩ = some (.string (str key)) := HC.out.cell 4
        go_wp2_with fail
        refine (hl3.out wB hB1.out).mono ?_
        rintro e w1 ⟨rfl, rfl⟩
        have hB2 := Lib.hid (show Below w.heap.size w (wB.alloc (.cells #[.slice A0 sh.length c0, .slice A1 up.length c1, .slice AP pa.length cP] 22)) from hB1.out.alloc hB1.out.size _) 
        have hC2 := Lib.hid (HC.out.alloc (.cells #[.slice A0 sh.length c0, .slice A1 up.length c1, .slice AP pa.length cP] 22))
        clear HC d0 d1 d2 d3 d4
        have HC := hC2
        generalize wB.alloc (.cells #[.slice A0 sh.length c0, .slice A1 up.length c1, .slice AP pa.length cP] 22) = w2 at *
        clear hC2
        have hgl := HC.out.lt
        have d0 : w2.cell? ⟨g, 0, none⟩ = some (.slice A0 sh.length c0) := HC.out.cell 0
        have d1 : w2.cell? ⟨g, 1, none⟩ = some (.slice A1 up.length c1) := HC.out.cell 1
        have d2 : w2.cell? ⟨g, 2, none⟩ = some (.slice AP pa.length cP) := HC.out.cell 2
        have d3 : w2.cell? ⟨g, 3, none⟩ = some (.string (str self)) := HC.out.cell 3
        have d4 : w2.cell? ⟨g, 4, none⟩ = some (.string (str key)) := HC.out.cell 4
        go_wp2_with fail
        refine (hl3.out w2 hB2.out).mono ?_
        rintro e w3 ⟨rfl, rfl⟩
        have hB3 := Lib.hid (show Below w.heap.size w (w2.alloc (.cells #[.slice A0 sh.length c0, .slice A1 up.length c1, .slice AP pa.length cP] 22)) from hB2.out.alloc hB2.out.size _)
        have hC3 := Lib.hid (HC.out.alloc (.cells #[.slice A0 sh.length c0, .slice A1 up.length c1, .slice AP pa.length cP] 22))
        clear HC d0 d1 d2 d3 d4
        have HC := hC3
        generalize w2.alloc (.cells #[.slice A0 sh.length c0, .slice A1 up.length c1, .slice AP pa.length cP] 22) = w3 at *
        clear hC3 hgl
        have hgl := HC.out.lt
        have d0 : w3.cell? ⟨g, 0, none⟩ = some (.slice A0 sh.length c0) := HC.out.cell 0
        have d1 : w3.cell? ⟨g, 1, none⟩ = some (.slice A1 up.length c1) := HC.out.cell 1
        have d2 : w3.cell? ⟨g, 2, none⟩ = some (.slice AP pa.length cP) := HC.out.cell 2
        have d3 : w3.cell? ⟨g, 3, none⟩ = some (.string (str self)) := HC.out.cell 3
        have d4 : w3.cell? ⟨g, 4, none⟩ = some (.string (str key)) := HC.out.cell 4
        go_wp2_with fail
        go_ret
        exact ⟨rfl, hB3.out⟩
    · have g5 : ¬ (500 : Int) < ((str self).size : Int) + ((str key).size : Int) := by omega
      have g6 : ¬ 10 < ts.length := by omega
      have g7 : ¬ (10 : Int) < (ts.length : Int) := by omega
      clear h500
      have hS3 : sumB sh + sumB up + sumB pa ≤ 2000 := by omega
      clear hS2 hS
      go_enter Tryz.func6, Tryz.ntmps6
      go_upto_region 1 with fail
      generalize w.alloc (.cells (caseC (.slice A0 sh.length c0) (.slice A1 up.length c1) (.slice AP pa.length cP) self key tries) 24) = wB at *
      generalize w.heap.size = g at HC hlt0 ⊢
      have d0 : wB.cell? ⟨g, 0, none⟩ = some (.slice A0 sh.length c0) := HC.out.cell 0
      have d1 : wB.cell? ⟨g, 1, none⟩ = some (.slice A1 up.length c1) := HC.out.cell 1
      have d2 : wB.cell? ⟨g, 2, none⟩ = some (.slice AP pa.length cP) := HC.out.cell 2
      have d3 : wB.cell? ⟨g, 3, none⟩ = some (.string (str self)) := HC.out.cell 3
      have d4 : wB.cell? ⟨g, 4, none⟩ = some (.string (str key)) := HC.out.cell 4
      go_wp2_with fail
      refine (hl3.out wB hB1.out).mono ?_
      rintro e w1 ⟨rfl, rfl⟩
      have hB2 := Lib.hid (show Below w.heap.size w (wB.alloc (.cells #[.slice A0 sh.length c0, .slice A1 up.length c1, .slice AP pa.length cP] 22)) from hB1.out.alloc hB1.out.size _) 
      have hC2 := Lib.hid (HC.out.alloc (.cells #[.slice A0 sh.length c0, .slice A1 up.length c1, .slice AP pa.length cP] 22))
      clear HC d0 d1 d2 d3 d4
      have HC := hC2
      generalize wB.alloc (.cells #[.slice A0 sh.length c0, .slice A1 up.length c1, .slice AP pa.length cP] 22) = w2 at *
      clear hC2
      have hgl := HC.out.lt
      have d0 : w2.cell? ⟨g, 0, none⟩ = some (.slice A0 sh.length c0) := HC.out.cell 0
      have d1 : w2.cell? ⟨g, 1, none⟩ = some (.slice A1 up.length c1) := HC.out.cell 1
      have d2 : w2.cell? ⟨g, 2, none⟩ = some (.slice AP pa.length cP) := HC.out.cell 2
      have d3 : w2.cell? ⟨g, 3, none⟩ = some (.string (str self)) := HC.out.cell 3
      have d4 : w2.cell? ⟨g, 4, none⟩ = some (.string (str key)) := HC.out.cell 4
      go_wp2_with fail
      refine (tawake_any _).mono ?_
      rintro e w3 ⟨rfl, hb3⟩
      have hC3 := Lib.hid (HC.out.below hb3)
      have hB3 := Lib.hid (Below.next hB2.out hB2.out.size hb3)
      clear HC d0 d1 d2 d3 d4 hgl hb3 hB2 hB1 hl3
      have HC := hC3
      clear hC3
      have hgl := HC.out.lt
      have d0 : w3.cell? ⟨g, 0, none⟩ = some (.slice A0 sh.length c0) := HC.out.cell 0
      have d1 : w3.cell? ⟨g, 1, none⟩ = some (.slice A1 up.length c1) := HC.out.cell 1
      have d2 : w3.cell? ⟨g, 2, none⟩ = some (.slice AP pa.length cP) := HC.out.cell 2
      have d3 : w3.cell? ⟨g, 3, none⟩ = some (.string (str self)) := HC.out.cell 3
      have d4 : w3.cell? ⟨g, 4, none⟩ = some (.string (str key)) := HC.out.cell 4
      have d5 : w3.cell? ⟨g, 5, none⟩ = some (.int .i64 tries) := HC.out.cell 5
      have hsl0 : sumB sh ≤ 2000 := by omega
      have hul : up.length ≤ 100000 := by have := sumB_len up; omega
      have hpl : pa.length ≤ 100000 := by have := sumB_len pa; omega
      have hri := rings_any w3 _ sh (H0.out.below hB3.out) hsl0
      have hGS := Lib.hid (mkS_good sh)
      have hLn := mkS_len sh
      have hL1 : (mkS sh).length ≤ 1000 := by omega
      clear hLn
      generalize mkS sh = L at *
      go_wp2_with fail
      refine hri.mono ?_
      rintro e w4 ⟨loc, v1, v2, rfl, hr4, hb4⟩
      have hB4 := Lib.hid (Below.next hB3.out hB3.out.size hb4)
      have hC4 := Lib.hid (HC.out.below hb4)
      have hR4 := Lib.hid hr4
      clear HC d0 d1 d2 d3 d4 d5 hgl hri hb4 hr4
      have HC := hC4
      clear hC4
      have hEd := Lib.hid (fun X (hX : Below w4.heap.size w4 X) (p : List Bytes) (a : Bytes) (vp : Value) (t : Int) (hp : Rd X 1 vp p.length (strs p)) (hpl : p.length ≤ 100000) => edge_any X _ loc v1 v2 _ vp L key a up p t (hR4.out.below hX) hGS.out hL1 (by omega) (H1.out.below (Below.next hB4.out hB4.out.size hX)) hul hp hpl)
      have HT4 := Lib.hid (fun X (hX : Below w4.heap.size w4 X) => HT.out.below (Below.next hB4.out hB4.out.size hX))
      have hon := own_nodup (ptsOf L) (Sk.hash 255 key)
      have hoo : ∀ x ∈ own (ptsOf L) (Sk.hash 255 key), x ≠ org ∧ x ≠ [] := fun x hx => by
        obtain ⟨y, hy, e⟩ := List.mem_map.1 (hGS.out.good.own_mem.1 hx)
        have := hGS.out.nm y hy
        rw [← e]
        exact ⟨this.2.2, fun h => by rw [h] at this; simp at this⟩
      have hHu := Lib.hid (fun X (hX : Below w4.heap.size w4 X) => H1.out.below (Below.next hB4.out hB4.out.size hX))
      have hHp := Lib.hid (fun X (hX : Below w4.heap.size w4 X) => H2.out.below (Below.next hB4.out hB4.out.size hX))
      have hCx := Lib.hid (fun X (hX : Below w4.heap.size w4 X) => HC.out.below hX)
      have hFin := Lib.hid (fun X (hX : Below w4.heap.size w4 X) => (show Below w.heap.size w X from Below.next hB4.out hB4.out.size hX))
      have hol := hGS.out.good.own_len (Sk.hash 255 key)
      generalize own (ptsOf L) (Sk.hash 255 key) = O at *
      have hgl := HC.out.lt
      have d2 : w4.cell? ⟨g, 2, none⟩ = some (.slice AP pa.length cP) := HC.out.cell 2
      have d3 : w4.cell? ⟨g, 3, none⟩ = some (.string (str self)) := HC.out.cell 3
      have hpl2 : pa.length ≤ 2000 := by have := sumB_len pa; omega
      clear hol hon hoo hR4 hGS
      go_upto_region 4 with fail
      go_cut [6, 7] from 65 to 70 (fun c6 c7 wx => c7 = .string (str self) ∧ Hid (Own wx w4.heap.size 9 1 c6 pa.length (strs pa)) ∧ Hid (Below w4.heap.size w4 wx))
      case first =>
        have hE0 := Lib.hid (show Own (w4.alloc (.cells #[] 9)).drew w4.heap.size 9 1 (.slice (some ⟨w4.heap.size, 0, none⟩) 0 0) 0 [] from own_made0 w4)
        have hb0 : Below w4.heap.size w4 (w4.alloc (.cells #[] 9)) := (Below.refl _ _).alloc (Nat.le_refl _) _
        have hB0 := Lib.hid hb0.drew
        have hR0 := Lib.hid ((hHp.out w4 (Below.refl _ _)).below hb0.drew)
        have hC0 := hCx.out _ hb0
        have e2 : (w4.alloc (.cells #[] 9)).cell? ⟨g, 2, none⟩ = some (.slice AP pa.length cP) := hC0.cell 2
        have e3 : (w4.alloc (.cells #[] 9)).cell? ⟨g, 3, none⟩ = some (.string (str self)) := hC0.cell 3
        clear hC0 hb0
        go_region_law
          (first
            | (refine stepR_push (A := AP) (n := 0) (m := pa.length) (c := cP) (xs := []) (news := strs pa) (B := w4.heap.size) (v := .slice (some ⟨w4.heap.size, 0, none⟩) 0 0) 22 9 (.string ⟨#[]⟩) 1 16 _ _ (by rfl) (by rfl) Tryz.underlying22 infoStr (by rfl) (by decide) (by decide) (by rfl) (by exact hE0.out) (by rfl) (by exact hR0.out) (strs_one _) (by omega) (by simp) ?_; intro v5 w5 ho5 hg5; rw [Nat.zero_add, List.nil_append] at ho5; have hW5 := Lib.hid (hB0.out.trans (below_grown hE0.out hg5 (by simp))); have hC5 := hCx.out _ hW5.out; have f2 : w5.cell? ⟨g, 2, none⟩ = some (.slice AP pa.length cP) := hC5.cell 2; have f3 : w5.cell? ⟨g, 3, none⟩ = some (.string (str self)) := hC5.cell 3; have hg5l := hC5.lt; clear hC5 hg5; replace ho5 := Lib.hid ho5))
        all_goals
          go_wp2_with fail
          go_meet
          exact ⟨rfl, ho5.out, by first | exact hW5.out | exact hW5.out.drew⟩
      case rest =>
        obtain ⟨rfl, ho4, hb4'⟩ := hcut
        clear d2 d3 hgl
        go_wp2_with fail
        go_loopw [6, 7, 71] (fun c6 c7 ci wr => ∃ (i : Nat) (p : List Bytes) (a : Bytes), ci = .int .i64 (i : Int) ∧ c7 = .string (str a) ∧ p.length ≤ 2000 ∧ (i = 0 ∨ (p.length ≤ 4 ∧ i ≤ p.length)) ∧ Hid (Own wr w4.heap.size 9 1 c6 p.length (strs p)) ∧ Hid (Below w4.heap.size w4 wr)) (fun _ _ i _ => 6 - (intOf i).toNat)
        case atStart => exact ⟨0, pa, self, rfl, rfl, hpl2, Or.inl rfl, ho4.out, hb4'.out⟩
        case round =>
          clear ho4 hb4'
          obtain ⟨i, p, a, rfl, rfl, hp2, hip, ho, hB5⟩ := hrel
          have hi4 : i ≤ 4 := by omega
          have k0 : (i : Int) < 6 := by omega
          have Hip := Lib.hid hip
          clear hip
          obtain ⟨w5, rfl⟩ : ∃ w5, w5 = wr := ⟨_, rfl⟩
          obtain ⟨A6, c6, rfl, -, -, -⟩ := Rd.own ho.out
          have hC5 := hCx.out _ hB5.out
          have hgl5 := hC5.lt
          have d1 : w5.cell? ⟨g, 1, none⟩ = some (.slice A1 up.length c1) := hC5.cell 1
          have d4 : w5.cell? ⟨g, 4, none⟩ = some (.string (str key)) := hC5.cell 4
          clear hC5
          by_cases hit : i < ts.length
          · obtain ⟨A', c', e', -, -, r'⟩ := HT4.out _ hB5.out
            cases e'
            obtain ⟨g7, of, rfl, _, x1⟩ := r' (by omega)
            have t0 : w5.cell? ⟨g7, of + i, none⟩ = some (.int .u8 ts[i]) := x1 i _ (u8t_at hit)
            have hz := Htz.out _ (List.getElem_mem hit)
            generalize ts[i] = z at *
            have g1 : (0 : Int) ≤ (i : Int) := by omega
            have g2 : (i : Int) < (ts.length : Int) := by omega
            have g3 : IntKind.i64.wrap z = z := IntWalk.i64_in _ (by omega)
            clear x1 r'
            have hE := hEd.out w5 hB5.out p a _ z (Rd.own ho.out) (by omega)
            have hres := edge_res (O := O) (up := up) (p := p) (a := a) z
            generalize edS (atN p a) (cands O up p a) z = x at *
            generalize edE (atN p a) (cands O up p a) z = n at *
            by_cases hi2 : i % 2 = 1
            · by_cases hk2 : z % 2 = 1
              · have wi : (i : Int) % 2 = 1 := by omega
                have wk : z % 2 = 1 := hk2
                clear hi2
                go_wp2_with fail
                refine hE.mono ?_
                rintro e w6 ⟨rfl, hb6⟩
                have hB6 := Lib.hid (Below.next hB5.out hB5.out.size hb6)
                have hSh := shield_any p a A6 c6 w6 (Rd.own (own_below ho.out hb6)) (by omega)
                have hres2 := shield_res (p := p) (a := a)
                clear hE hres
                generalize errV n = ev0 at *
                generalize x = x0 at *
                generalize shT p a = x at *
                generalize shN p a = n at *
                go_wp2_with fail
                refine hSh.mono ?_
                rintro e w7 ⟨rfl, hb7⟩
                have hbl := Lib.hid (hb6.trans (hb7.mono hb6.size))
                have hB7 := Lib.hid (Below.next hB6.out hB6.out.size hb7)
                clear hb6 hb7 hSh
                rcases hres2 with ⟨hx, hev⟩ | ⟨hev, hnot, hlen⟩
                · have q0 : ((str x).toList == ([] : List UInt8)) = true := by rw [str_toList, hx]; rfl
                  obtain ⟨h0, hev2⟩ := (errV_cases n).resolve_left (fun h => hev h.1)
                  rw [hev2]
                  clear hx hev hev2 h0
                  go_wp2_with fail
                  go_ret
                  exact ⟨rfl, hFin.out _ hB7.out⟩
                · obtain rfl := hev
                  rw [errV_zero]
                  obtain ⟨p2, hp2e⟩ : ∃ p2, p ++ [a] = p2 := ⟨_, rfl⟩
                  have hpal : Hid (p2.length = p.length + 1) := by show _ = _; rw [← hp2e, List.length_append, List.length_singleton]
                  rw [hp2e] at hnot
                  have Hp2e := Lib.hid hp2e
                  clear hp2e
                  go_wp2_with (at_builtin; refine push_str _ _ rfl rfl rfl (own_below ho.out (hbl.out)) rfl rfl (by omega) (hB7.out.size) ?_; intro v8 w8 ho8 hb8; rw [← strs_snoc, Hp2e.out, ← hpal.out] at ho8; replace ho8 := Lib.hid ho8; have hB8 := Lib.hid (hB7.out.trans hb8); obtain ⟨A8, c8, rfl, -, -, -⟩ := Rd.own ho8.out; clear hb8)
                  have hha := lhas_any p2 x A8 c8 w8 (Rd.own ho8.out) (by rw [hpal.out]; omega)
                  rw [decide_eq_false hnot] at hha
                  have hpal4 := hpal.out
                  refine hha.mono ?_
                  rintro e w9 ⟨rfl, rfl⟩
                  by_cases hxo : x = org
                  · have q1 : ((str x).toList == [111, 114, 105, 103, 105, 110]) = true := by rw [str_toList, hxo]; rfl
                    have g4 : (p2.length : Int) ≤ 4 := by omega
                    have H4 := Lib.hid hpal4
                    clear hxo hpal4
                    go_wp2_with fail
                    go_ret
                    exact ⟨rfl, hFin.out _ hB8.out⟩
                  · have q1 : ((str x).toList == [111, 114, 105, 103, 105, 110]) = false := by rw [str_toList, beq_eq_false_iff_ne]; exact hxo
                    have H4 := Lib.hid hpal4
                    clear hxo hpal4
                    go_wp2_with fail
                    go_roundw
                    case rel => exact ⟨i + 1, p2, x, by go_num, rfl, by have := H4.out; omega, by have := H4.out; have := Hip.out; omega, ho8.out, hB8.out⟩
                    case measure => simp [intOf]; have := H4.out; omega
              · have wi : (i : Int) % 2 = 1 := by omega
                have wk : ¬ z % 2 = 1 := hk2
                have wk2 : z % 2 = 0 := by omega
                clear hi2
                go_wp2_with fail
                refine hE.mono ?_
                rintro e w6 ⟨rfl, hb6⟩
                have hB6 := Lib.hid (Below.next hB5.out hB5.out.size hb6)
                have hbl := Lib.hid hb6
                clear hb6 hE
                rcases hres with ⟨hx, hev⟩ | ⟨hev, hnot, hlen⟩
                · have q0 : ((str x).toList == ([] : List UInt8)) = true := by rw [str_toList, hx]; rfl
                  obtain ⟨h0, hev2⟩ := (errV_cases n).resolve_left (fun h => hev h.1)
                  rw [hev2]
                  clear hx hev hev2 h0
                  go_wp2_with fail
                  go_ret
                  exact ⟨rfl, hFin.out _ hB6.out⟩
                · obtain rfl := hev
                  rw [errV_zero]
                  obtain ⟨p2, hp2e⟩ : ∃ p2, p ++ [a] = p2 := ⟨_, rfl⟩
                  have hpal : Hid (p2.length = p.length + 1) := by show _ = _; rw [← hp2e, List.length_append, List.length_singleton]
                  rw [hp2e] at hnot
                  have Hp2e := Lib.hid hp2e
                  clear hp2e
                  go_wp2_with (at_builtin; refine push_str _ _ rfl rfl rfl (own_below ho.out (hbl.out)) rfl rfl (by omega) (hB6.out.size) ?_; intro v8 w8 ho8 hb8; rw [← strs_snoc, Hp2e.out, ← hpal.out] at ho8; replace ho8 := Lib.hid ho8; have hB8 := Lib.hid (hB6.out.trans hb8); obtain ⟨A8, c8, rfl, -, -, -⟩ := Rd.own ho8.out; clear hb8)
                  have hha := lhas_any p2 x A8 c8 w8 (Rd.own ho8.out) (by rw [hpal.out]; omega)
                  rw [decide_eq_false hnot] at hha
                  have hpal4 := hpal.out
                  refine hha.mono ?_
                  rintro e w9 ⟨rfl, rfl⟩
                  by_cases hxo : x = org
                  · have q1 : ((str x).toList == [111, 114, 105, 103, 105, 110]) = true := by rw [str_toList, hxo]; rfl
                    have g4 : (p2.length : Int) ≤ 4 := by omega
                    have H4 := Lib.hid hpal4
                    clear hxo hpal4
                    go_wp2_with fail
                    go_ret
                    exact ⟨rfl, hFin.out _ hB8.out⟩
                  · have q1 : ((str x).toList == [111, 114, 105, 103, 105, 110]) = false := by rw [str_toList, beq_eq_false_iff_ne]; exact hxo
                    have H4 := Lib.hid hpal4
                    clear hxo hpal4
                    go_wp2_with fail
                    go_roundw
                    case rel => exact ⟨i + 1, p2, x, by go_num, rfl, by have := H4.out; omega, by have := H4.out; have := Hip.out; omega, ho8.out, hB8.out⟩
                    case measure => simp [intOf]; have := H4.out; omega
            · have wi : ¬ (i : Int) % 2 = 1 := by omega
              have wi2 : (i : Int) % 2 = 0 := by omega
              clear hi2
              go_wp2_with fail
              refine hE.mono ?_
              rintro e w6 ⟨rfl, hb6⟩
              have hB6 := Lib.hid (Below.next hB5.out hB5.out.size hb6)
              have hbl := Lib.hid hb6
              clear hb6 hE
              rcases hres with ⟨hx, hev⟩ | ⟨hev, hnot, hlen⟩
              · have q0 : ((str x).toList == ([] : List UInt8)) = true := by rw [str_toList, hx]; rfl
                obtain ⟨h0, hev2⟩ := (errV_cases n).resolve_left (fun h => hev h.1)
                rw [hev2]
                clear hx hev hev2 h0
                go_wp2_with fail
                go_ret
                exact ⟨rfl, hFin.out _ hB6.out⟩
              · obtain rfl := hev
                rw [errV_zero]
                obtain ⟨p2, hp2e⟩ : ∃ p2, p ++ [a] = p2 := ⟨_, rfl⟩
                have hpal : Hid (p2.length = p.length + 1) := by show _ = _; rw [← hp2e, List.length_append, List.length_singleton]
                rw [hp2e] at hnot
                have Hp2e := Lib.hid hp2e
                clear hp2e
                go_wp2_with (at_builtin; refine push_str _ _ rfl rfl rfl (own_below ho.out (hbl.out)) rfl rfl (by omega) (hB6.out.size) ?_; intro v8 w8 ho8 hb8; rw [← strs_snoc, Hp2e.out, ← hpal.out] at ho8; replace ho8 := Lib.hid ho8; have hB8 := Lib.hid (hB6.out.trans hb8); obtain ⟨A8, c8, rfl, -, -, -⟩ := Rd.own ho8.out; clear hb8)
                have hha := lhas_any p2 x A8 c8 w8 (Rd.own ho8.out) (by rw [hpal.out]; omega)
                rw [decide_eq_false hnot] at hha
                have hpal4 := hpal.out
                refine hha.mono ?_
                rintro e w9 ⟨rfl, rfl⟩
                by_cases hxo : x = org
                · have q1 : ((str x).toList == [111, 114, 105, 103, 105, 110]) = true := by rw [str_toList, hxo]; rfl
                  have g4 : (p2.length : Int) ≤ 4 := by omega
                  have H4 := Lib.hid hpal4
                  clear hxo hpal4
                  go_wp2_with fail
                  go_ret
                  exact ⟨rfl, hFin.out _ hB8.out⟩
                · have q1 : ((str x).toList == [111, 114, 105, 103, 105, 110]) = false := by rw [str_toList, beq_eq_false_iff_ne]; exact hxo
                  have H4 := Lib.hid hpal4
                  clear hxo hpal4
                  go_wp2_with fail
                  go_roundw
                  case rel => exact ⟨i + 1, p2, x, by go_num, rfl, by have := H4.out; omega, by have := H4.out; have := Hip.out; omega, ho8.out, hB8.out⟩
                  case measure => simp [intOf]; have := H4.out; omega
          · have g2 : ¬ (i : Int) < (ts.length : Int) := by omega
            have hE := hEd.out w5 hB5.out p a _ 0 (Rd.own ho.out) (by omega)
            have hres := edge_res (O := O) (up := up) (p := p) (a := a) 0
            generalize edS (atN p a) (cands O up p a) 0 = x at *
            generalize edE (atN p a) (cands O up p a) 0 = n at *
            by_cases hi2 : i % 2 = 1
            · have wi : (i : Int) % 2 = 1 := by omega
              clear hi2
              go_wp2_with fail
              refine hE.mono ?_
              rintro e w6 ⟨rfl, hb6⟩
              have hB6 := Lib.hid (Below.next hB5.out hB5.out.size hb6)
              have hbl := Lib.hid hb6
              clear hb6 hE
              rcases hres with ⟨hx, hev⟩ | ⟨hev, hnot, hlen⟩
              · have q0 : ((str x).toList == ([] : List UInt8)) = true := by rw [str_toList, hx]; rfl
                obtain ⟨h0, hev2⟩ := (errV_cases n).resolve_left (fun h => hev h.1)
                rw [hev2]
                clear hx hev hev2 h0
                go_wp2_with fail
                go_ret
                exact ⟨rfl, hFin.out _ hB6.out⟩
              · obtain rfl := hev
                rw [errV_zero]
                obtain ⟨p2, hp2e⟩ : ∃ p2, p ++ [a] = p2 := ⟨_, rfl⟩
                have hpal : Hid (p2.length = p.length + 1) := by show _ = _; rw [← hp2e, List.length_append, List.length_singleton]
                rw [hp2e] at hnot
                have Hp2e := Lib.hid hp2e
                clear hp2e
                go_wp2_with (at_builtin; refine push_str _ _ rfl rfl rfl (own_below ho.out (hbl.out)) rfl rfl (by omega) (hB6.out.size) ?_; intro v8 w8 ho8 hb8; rw [← strs_snoc, Hp2e.out, ← hpal.out] at ho8; replace ho8 := Lib.hid ho8; have hB8 := Lib.hid (hB6.out.trans hb8); obtain ⟨A8, c8, rfl, -, -, -⟩ := Rd.own ho8.out; clear hb8)
                have hha := lhas_any p2 x A8 c8 w8 (Rd.own ho8.out) (by rw [hpal.out]; omega)
                rw [decide_eq_false hnot] at hha
                have hpal4 := hpal.out
                refine hha.mono ?_
                rintro e w9 ⟨rfl, rfl⟩
                by_cases hxo : x = org
                · have q1 : ((str x).toList == [111, 114, 105, 103, 105, 110]) = true := by rw [str_toList, hxo]; rfl
                  have g4 : (p2.length : Int) ≤ 4 := by omega
                  have H4 := Lib.hid hpal4
                  clear hxo hpal4
                  go_wp2_with fail
                  go_ret
                  exact ⟨rfl, hFin.out _ hB8.out⟩
                · have q1 : ((str x).toList == [111, 114, 105, 103, 105, 110]) = false := by rw [str_toList, beq_eq_false_iff_ne]; exact hxo
                  have H4 := Lib.hid hpal4
                  clear hxo hpal4
                  go_wp2_with fail
                  go_roundw
                  case rel => exact ⟨i + 1, p2, x, by go_num, rfl, by have := H4.out; omega, by have := H4.out; have := Hip.out; omega, ho8.out, hB8.out⟩
                  case measure => simp [intOf]; have := H4.out; omega
            · have wi : ¬ (i : Int) % 2 = 1 := by omega
              have wi2 : (i : Int) % 2 = 0 := by omega
              clear hi2
              go_wp2_with fail
              refine hE.mono ?_
              rintro e w6 ⟨rfl, hb6⟩
              have hB6 := Lib.hid (Below.next hB5.out hB5.out.size hb6)
              have hbl := Lib.hid hb6
              clear hb6 hE
              rcases hres with ⟨hx, hev⟩ | ⟨hev, hnot, hlen⟩
              · have q0 : ((str x).toList == ([] : List UInt8)) = true := by rw [str_toList, hx]; rfl
                obtain ⟨h0, hev2⟩ := (errV_cases n).resolve_left (fun h => hev h.1)
                rw [hev2]
                clear hx hev hev2 h0
                go_wp2_with fail
                go_ret
                exact ⟨rfl, hFin.out _ hB6.out⟩
              · obtain rfl := hev
                rw [errV_zero]
                obtain ⟨p2, hp2e⟩ : ∃ p2, p ++ [a] = p2 := ⟨_, rfl⟩
                have hpal : Hid (p2.length = p.length + 1) := by show _ = _; rw [← hp2e, List.length_append, List.length_singleton]
                rw [hp2e] at hnot
                have Hp2e := Lib.hid hp2e
                clear hp2e
                go_wp2_with (at_builtin; refine push_str _ _ rfl rfl rfl (own_below ho.out (hbl.out)) rfl rfl (by omega) (hB6.out.size) ?_; intro v8 w8 ho8 hb8; rw [← strs_snoc, Hp2e.out, ← hpal.out] at ho8; replace ho8 := Lib.hid ho8; have hB8 := Lib.hid (hB6.out.trans hb8); obtain ⟨A8, c8, rfl, -, -, -⟩ := Rd.own ho8.out; clear hb8)
                have hha := lhas_any p2 x A8 c8 w8 (Rd.own ho8.out) (by rw [hpal.out]; omega)
                rw [decide_eq_false hnot] at hha
                have hpal4 := hpal.out
                refine hha.mono ?_
                rintro e w9 ⟨rfl, rfl⟩
                by_cases hxo : x = org
                · have q1 : ((str x).toList == [111, 114, 105, 103, 105, 110]) = true := by rw [str_toList, hxo]; rfl
                  have g4 : (p2.length : Int) ≤ 4 := by omega
                  have H4 := Lib.hid hpal4
                  clear hxo hpal4
                  go_wp2_with fail
                  go_ret
                  exact ⟨rfl, hFin.out _ hB8.out⟩
                · have q1 : ((str x).toList == [111, 114, 105, 103, 105, 110]) = false := by rw [str_toList, beq_eq_false_iff_ne]; exact hxo
                  have H4 := Lib.hid hpal4
                  clear hxo hpal4
                  go_wp2_with fail
                  go_roundw
                  case rel => exact ⟨i + 1, p2, x, by go_num, rfl, by have := H4.out; omega, by have := H4.out; have := Hip.out; omega, ho8.out, hB8.out⟩
                  case measure => simp [intOf]; have := H4.out; omega
end Go.Proofs.YtkcipebpknapkaaGreatDoor
