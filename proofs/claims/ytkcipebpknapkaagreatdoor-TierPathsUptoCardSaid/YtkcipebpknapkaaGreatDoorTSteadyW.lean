/-
  The walk of TierSteady.
-/
import Derived.Test.YtkcipebpknapkaaGreatDoorTTriesW
namespace Go.Proofs.YtkcipebpknapkaaGreatDoor
open Go.Shelf Go.RowKit Go.Lib Go.Sort Rg Syn Ti
theorem own_made1 (w : World) (x : Bytes) : Own (w.alloc (.cells #[.string (str x)] 9)) w.heap.size 9 1 (.slice (some ⟨w.heap.size, 0, none⟩) 1 1) 1 (strs [x]) := by
  have hb := blk_new w 9 #[.string (str x)]
  refine own_mk ⟨_, hb, rfl⟩ (Nat.le_refl _) (Nat.le_refl _) (by unfold maxLen; omega) rfl (fun j u hu => ?_)
  rw [hb.cell]; simpa [strs] using hu
/-- append of an owned row of texts onto an owned row. -/
theorem push_own {ops : Array Oper} {rest : List Oper} {o : Oper} {a : Act} {Q : Exit → Act → World → Prop} {w : World} (s x : Operand)
    (hgd : o.guard = none) (ho : o.op = .call { callee := .builtin .append, args := #[s, x], argTypes := #[22, 22] })
    {B B' n : Nat} {v v2 : Value} {xs : List Value} {ys : List Bytes} (hs : a.eval s = v) (hown : Own w B 9 1 v n xs) (hx : a.eval x = v2) (hown2 : Own w B' 9 1 v2 ys.length (strs ys)) (hn : (n + ys.length) * 16 ≤ 140737488355328) (hbase : B ≤ w.heap.size)
    (h : ∀ v' w', Own w' B 9 1 v' (n + ys.length) (xs ++ strs ys) → Below B w w' → wpList Tryz.prog ops Q rest (a.put o.dst v') w') : wpList Tryz.prog ops Q (o :: rest) a w := by
  rcases own_nil' hown2 with ⟨rfl, h0, h1⟩ | ⟨g, cap, rfl⟩
  · obtain rfl : ys = [] := List.eq_nil_of_length_eq_zero h0
    obtain ⟨i, hi⟩ : ∃ i, Tryz.prog.info? 9 = some i := by
      have h := infoStr
      cases hP : Tryz.prog.info? 9 with
      | none => rw [hP] at h; cases h
      | some i => exact ⟨i, rfl⟩
    refine wpList_append_own_none hgd s x 22 ho B 9 i 1 Tryz.underlying22 hi v n xs hs hown hx ?_
    exact h v w (by rw [show strs [] = [] from rfl, List.append_nil]; exact hown) (Below.refl _ _)
  · exact step_push16 s x hgd ho hs hown hx (news := strs ys) (ad := ⟨g, 0, none⟩) (by rw [strs_length]) (fun j u hu => by rw [add0]; exact own_at hown2 hu) (strs_one ys) hn hbase h
namespace Ti
theorem take_not {l : List Bytes} {k : Nat} (h : k < l.length) (o : Bytes) : (l.take (k + 1)).filter (fun y => decide (y ≠ o)) = (l.take k).filter (fun y => decide (y ≠ o)) ++ if l[k] = o then [] else [l[k]] := by
  rw [← List.take_append_getElem h, List.filter_append]
  congr 1
  split
  · next e => exact List.filter_cons_of_neg (p := fun y => decide (y ≠ o)) (by simpa using e)
  · next e => exact (List.filter_cons_of_pos (p := fun y => decide (y ≠ o)) (by simpa using e)).trans rfl
/-- Where the last x stands among the first k. -/
def At (O : List Bytes) (k : Nat) (x : Bytes) (d p : Nat) : Prop := (p = d ∧ x ∉ O.take k) ∨ (p < k ∧ O[p]? = some x)
theorem at_zero (O : List Bytes) (x : Bytes) (d : Nat) : At O 0 x d d := Or.inl ⟨rfl, by simp⟩
theorem at_yes {O : List Bytes} {k : Nat} (h : k < O.length) {x : Bytes} {d : Nat} (he : O[k] = x) : At O (k + 1) x d k := Or.inr ⟨by omega, by rw [List.getElem?_eq_getElem h, he]⟩
theorem at_no {O : List Bytes} {k : Nat} (h : k < O.length) {x : Bytes} {d p : Nat} (ha : At O k x d p) (he : O[k] ≠ x) : At O (k + 1) x d p := by
  rcases ha with ⟨h1, h2⟩ | ⟨h1, h2⟩
  · refine Or.inl ⟨h1, fun hm => ?_⟩
    rw [List.take_succ_eq_append_getElem h] at hm
    rcases List.mem_append.1 hm with hm | hm
    · exact h2 hm
    · rw [List.mem_singleton] at hm; exact he hm.symm
  · exact Or.inr ⟨by omega, h2⟩
/-- If the other node does not stand ahead, it is not among those ahead of s. -/
theorem at_ahead {O : List Bytes} (hn : O.Nodup) {s o : Bytes} {p q : Nat} (hs : s ∈ O) (hp : At O O.length o O.length p) (hq : At O O.length s 0 q) (hpq : q < p) : ∀ A B, O = A ++ s :: B → o ∉ A ∧ o ≠ s := by
  intro A B hO
  have hq2 : q < O.length ∧ O[q]? = some s := by
    rcases hq with ⟨-, h⟩ | h
    · rw [List.take_length] at h; exact absurd hs h
    · exact h
  have hA : O[A.length]? = some s := by rw [hO, List.getElem?_append_right (Nat.le_refl _), Nat.sub_self]; rfl
  have uni : ∀ i j x, O[i]? = some x → O[j]? = some x → i = j := fun i j x hi hj => by
    obtain ⟨h1, e1⟩ := List.getElem?_eq_some_iff.1 hi
    obtain ⟨h2, e2⟩ := List.getElem?_eq_some_iff.1 hj
    rcases Nat.lt_trichotomy i j with h | h | h
    · exact absurd (e1.trans e2.symm) (List.pairwise_iff_getElem.1 hn i j h1 h2 h)
    · exact h
    · exact absurd (e2.trans e1.symm) (List.pairwise_iff_getElem.1 hn j i h2 h1 h)
  have hAq := uni _ _ _ hA hq2.2
  refine ⟨fun ho => ?_, fun ho => ?_⟩
  · obtain ⟨j, hj, e⟩ := List.mem_iff_getElem.1 ho
    have hj2 : O[j]? = some o := by rw [hO, List.getElem?_append_left hj, List.getElem?_eq_getElem hj, e]
    rcases hp with ⟨-, h⟩ | ⟨-, h⟩
    · rw [List.take_length] at h
      exact h (by rw [hO]; exact List.mem_append_left _ ho)
    · have := uni _ _ _ h hj2; omega
  · subst ho
    rcases hp with ⟨-, h⟩ | ⟨-, h⟩
    · rw [List.take_length] at h; exact h hs
    · have := uni _ _ _ h hq2.2; omega
end Ti
set_option maxRecDepth 100000 in
set_option maxHeartbeats 16000000 in
theorem steady_walk (w : World) (vs vu : Value) (AP : Option Addr) (cP : Nat) (sh up pa : List Bytes) (self key : Bytes) (tries : Int) (h0 : Rd w 1 vs sh.length (strs sh)) (h1 : Rd w 1 vu up.length (strs up)) (h2 : Rd w 1 (.slice AP pa.length cP) pa.length (strs pa)) (_ : AP = none → cP = 0) (hS : sumB sh + sumB up + sumB pa ≤ 4611686018427387904) (hs : self.length ≤ 1048576) (hk : key.length ≤ 1048576) (other : Bytes) (hot : other.length ≤ 1048576) :
    Calls Tryz.prog 5 #[.agg (caseC vs vu (.slice AP pa.length cP) self key tries), .string (str other)] w fun e w' => e = .returned (.bool true) ∧ Below w.heap.size w w' := by
  obtain ⟨A0, c0, rfl, -, -, -⟩ := id h0
  obtain ⟨A1, c1, rfl, -, -, -⟩ := id h1
  have hB1 := Lib.hid (show Below w.heap.size w (w.alloc (.cells (caseC (.slice A0 sh.length c0) (.slice A1 up.length c1) (.slice AP pa.length cP) self key tries) 24)) from (Below.refl _ _).alloc (Nat.le_refl _) _)
  have hC := blk_new w 24 (caseC (.slice A0 sh.length c0) (.slice A1 up.length c1) (.slice AP pa.length cP) self key tries)
  have H0 := Lib.hid h0
  have H1 := Lib.hid h1
  have H2 := Lib.hid h2
  have hl3 := Lib.hid (fun X (hX : Below w.heap.size w X) => (show Calls Tryz.prog 7 #[.slice (some ⟨X.heap.size, 0, none⟩) 3 3] (X.alloc (.cells #[.slice A0 sh.length c0, .slice A1 up.length c1, .slice AP pa.length cP] 22)) fun e w' => e = .returned (.bool (decide (2000 < sumB sh + sumB up + sumB pa))) ∧ w' = X.alloc (.cells #[.slice A0 sh.length c0, .slice A1 up.length c1, .slice AP pa.length cP] 22) from by
    have hb : Below w.heap.size w (X.alloc (.cells #[.slice A0 sh.length c0, .slice A1 up.length c1, .slice AP pa.length cP] 22)) := hX.alloc hX.size _
    exact long3_any sh up pa _ _ _ X.heap.size _ (blk_new X 22 _) (h0.below hb) (h1.below hb) (h2.below hb) hS))
  clear h0 h1 h2
  have hss : (str self).size = self.length := str_size self
  have hks : (str key).size = key.length := str_size key
  have hos : (str other).size = other.length := str_size other
  have wS : IntKind.i64.wrap (((str self).size : Int) + ((str key).size : Int)) = ((str self).size : Int) + ((str key).size : Int) := IntWalk.i64_in _ (by omega)
  have wS2 : IntKind.i64.wrap (((str self).size : Int) + ((str key).size : Int) + ((str other).size : Int)) = ((str self).size : Int) + ((str key).size : Int) + ((str other).size : Int) := IntWalk.i64_in _ (by omega)
  have hlt0 := hC.lt
  have HC := Lib.hid hC
  clear hC
  by_cases hS2 : 2000 < sumB sh + sumB up + sumB pa
  · rw [decide_eq_true hS2] at hl3
    clear hS2
    go_enter Tryz.func5, Tryz.ntmps5
    go_upto_region 1 with fail
    generalize w.alloc (.cells (caseC (.slice A0 sh.length c0) (.slice A1 up.length c1) (.slice AP pa.length cP) self key tries) 24) = wB at *
    generalize w.heap.size = g at HC hlt0 ⊢
    have d0 : wB.cell? ⟨g, 0, none⟩ = some (.slice A0 sh.length c0) := HC.out.cell 0
    have d1 : wB.cell? ⟨g, 1, none⟩ = some (.slice A1 up.length c1) := HC.out.cell 1
    have d2 : wB.cell? ⟨g, 2, none⟩ = some (.slice AP pa.length cP) := HC.out.cell 2
    go_wp2_with fail
    refine (hl3.out wB hB1.out).mono ?_
    rintro e w1 ⟨rfl, rfl⟩
    have hB2 := Lib.hid (show Below w.heap.size w (wB.alloc (.cells #[.slice A0 sh.length c0, .slice A1 up.length c1, .slice AP pa.length cP] 22)) from hB1.out.alloc hB1.out.size _) 
    have hC2 := Lib.hid (HC.out.alloc (.cells #[.slice A0 sh.length c0, .slice A1 up.length c1, .slice AP pa.length cP] 22))
    clear HC d0 d1 d2
    have HC := hC2
    generalize wB.alloc (.cells #[.slice A0 sh.length c0, .slice A1 up.length c1, .slice AP pa.length cP] 22) = w2 at *
    clear hC2
    have hgl := HC.out.lt
    have d0 : w2.cell? ⟨g, 0, none⟩ = some (.slice A0 sh.length c0) := HC.out.cell 0
    have d1 : w2.cell? ⟨g, 1, none⟩ = some (.slice A1 up.length c1) := HC.out.cell 1
    have d2 : w2.cell? ⟨g, 2, none⟩ = some (.slice AP pa.length cP) := HC.out.cell 2
    go_wp2_with fail
    refine (hl3.out w2 hB2.out).mono ?_
    rintro e w3 ⟨rfl, rfl⟩
    have hB3 := Lib.hid (show Below w.heap.size w (w2.alloc (.cells #[.slice A0 sh.length c0, .slice A1 up.length c1, .slice AP pa.length cP] 22)) from hB2.out.alloc hB2.out.size _)
    go_wp2_with fail
    go_ret
    exact ⟨rfl, hB3.out⟩
  · rw [decide_eq_false hS2] at hl3
    by_cases h500 : 500 < self.length + key.length + other.length
    · have g5 : (500 : Int) < ((str self).size : Int) + ((str key).size : Int) + ((str other).size : Int) := by omega
      clear h500
      go_enter Tryz.func5, Tryz.ntmps5
      go_upto_region 1 with fail
      generalize w.alloc (.cells (caseC (.slice A0 sh.length c0) (.slice A1 up.length c1) (.slice AP pa.length cP) self key tries) 24) = wB at *
      generalize w.heap.size = g at HC hlt0 ⊢
      have d0 : wB.cell? ⟨g, 0, none⟩ = some (.slice A0 sh.length c0) := HC.out.cell 0
      have d1 : wB.cell? ⟨g, 1, none⟩ = some (.slice A1 up.length c1) := HC.out.cell 1
      have d2 : wB.cell? ⟨g, 2, none⟩ = some (.slice AP pa.length cP) := HC.out.cell 2
      have d3 : wB.cell? ⟨g, 3, none⟩ = some (.string (str self)) := HC.out.cell 3
      have d4 : wB.cell? ⟨g, 4, none⟩ = some (.string (str key)) := HC.out.cell 4
      go_wp2_with fail
      refine (hl3.out wB hB1.out).mono ?_
      rintro e w1 ⟨rfl, rfl⟩
      have hB2 := Lib.hid (show Below w.heap.size w (wB.alloc (.cells #[.slice A0 sh.length c0, .slice A1 up.length c1, .slice AP pa.length cP] 22)) from hB1.out.alloc hB1.out.size _) 
      have hC2 := Lib.hid (HC.out.alloc (.cells #[.slice A0 sh.length c0, .slice A1 up.length c1, .slice AP pa.length cP] 22))
      clear HC d0 d1 d2 d3 d4
      have HC := hC2
      generalize wB.alloc (.cells #[.slice A0 sh.length c0, .slice A1 up.length c1, .slice AP pa.length cP] 22) = w2 at *
      clear hC2
      have hgl := HC.out.lt
      have d0 : w2.cell? ⟨g, 0, none⟩ = some (.slice A0 sh.length c0) := HC.out.cell 0
      have d1 : w2.cell? ⟨g, 1, none⟩ = some (.slice A1 up.length c1) := HC.out.cell 1
      have d2 : w2.cell? ⟨g, 2, none⟩ = some (.slice AP pa.length cP) := HC.out.cell 2
      have d3 : w2.cell? ⟨g, 3, none⟩ = some (.string (str self)) := HC.out.cell 3
      have d4 : w2.cell? ⟨g, 4, none⟩ = some (.string (str key)) := HC.out.cell 4
      go_wp2_with fail
      refine (hl3.out w2 hB2.out).mono ?_
      rintro e w3 ⟨rfl, rfl⟩
      have hB3 := Lib.hid (show Below w.heap.size w (w2.alloc (.cells #[.slice A0 sh.length c0, .slice A1 up.length c1, .slice AP pa.length cP] 22)) from hB2.out.alloc hB2.out.size _)
      have hC3 := Lib.hid (HC.out.alloc (.cells #[.slice A0 sh.length c0, .slice A1 up.length c1, .slice AP pa.length cP] 22))
      clear HC d0 d1 d2 d3 d4
      have HC := hC3
      generalize w2.alloc (.cells #[.slice A0 sh.length c0, .slice A1 up.length c1, .slice AP pa.length cP] 22) = w3 at *
      clear hC3 hgl
      have hgl := HC.out.lt
      have d0 : w3.cell? ⟨g, 0, none⟩ = some (.slice A0 sh.length c0) := HC.out.cell 0
      have d1 : w3.cell? ⟨g, 1, none⟩ = some (.slice A1 up.length c1) := HC.out.cell 1
      have d2 : w3.cell? ⟨g, 2, none⟩ = some (.slice AP pa.length cP) := HC.out.cell 2
      have d3 : w3.cell? ⟨g, 3, none⟩ = some (.string (str self)) := HC.out.cell 3
      have d4 : w3.cell? ⟨g, 4, none⟩ = some (.string (str key)) := HC.out.cell 4
      go_wp2_with fail
      go_ret
      exact ⟨rfl, hB3.out⟩
    · have g5 : ¬ (500 : Int) < ((str self).size : Int) + ((str key).size : Int) + ((str other).size : Int) := by omega
      clear h500
      have hS3 : sumB sh + sumB up + sumB pa ≤ 2000 := by omega
      clear hS2 hS
      go_enter Tryz.func5, Tryz.ntmps5
      go_upto_region 1 with fail
      generalize w.alloc (.cells (caseC (.slice A0 sh.length c0) (.slice A1 up.length c1) (.slice AP pa.length cP) self key tries) 24) = wB at *
      generalize w.heap.size = g at HC hlt0 ⊢
      have d0 : wB.cell? ⟨g, 0, none⟩ = some (.slice A0 sh.length c0) := HC.out.cell 0
      have d1 : wB.cell? ⟨g, 1, none⟩ = some (.slice A1 up.length c1) := HC.out.cell 1
      have d2 : wB.cell? ⟨g, 2, none⟩ = some (.slice AP pa.length cP) := HC.out.cell 2
      have d3 : wB.cell? ⟨g, 3, none⟩ = some (.string (str self)) := HC.out.cell 3
      have d4 : wB.cell? ⟨g, 4, none⟩ = some (.string (str key)) := HC.out.cell 4
      go_wp2_with fail
      refine (hl3.out wB hB1.out).mono ?_
      rintro e w1 ⟨rfl, rfl⟩
      have hB2 := Lib.hid (show Below w.heap.size w (wB.alloc (.cells #[.slice A0 sh.length c0, .slice A1 up.length c1, .slice AP pa.length cP] 22)) from hB1.out.alloc hB1.out.size _) 
      have hC2 := Lib.hid (HC.out.alloc (.cells #[.slice A0 sh.length c0, .slice A1 up.length c1, .slice AP pa.length cP] 22))
      clear HC d0 d1 d2 d3 d4
      have HC := hC2
      generalize wB.alloc (.cells #[.slice A0 sh.length c0, .slice A1 up.length c1, .slice AP pa.length cP] 22) = w2 at *
      clear hC2
      have hgl := HC.out.lt
      have d0 : w2.cell? ⟨g, 0, none⟩ = some (.slice A0 sh.length c0) := HC.out.cell 0
      have d1 : w2.cell? ⟨g, 1, none⟩ = some (.slice A1 up.length c1) := HC.out.cell 1
      have d2 : w2.cell? ⟨g, 2, none⟩ = some (.slice AP pa.length cP) := HC.out.cell 2
      have d3 : w2.cell? ⟨g, 3, none⟩ = some (.string (str self)) := HC.out.cell 3
      have d4 : w2.cell? ⟨g, 4, none⟩ = some (.string (str key)) := HC.out.cell 4
      go_wp2_with fail
      refine (tawake_any _).mono ?_
      rintro e w3 ⟨rfl, hb3⟩
      have hC3 := Lib.hid (HC.out.below hb3)
      have hB3 := Lib.hid (Below.next hB2.out hB2.out.size hb3)
      clear HC d0 d1 d2 d3 d4 hgl hb3 hB2 hB1 hl3
      have HC := hC3
      clear hC3
      have hgl := HC.out.lt
      have d0 : w3.cell? ⟨g, 0, none⟩ = some (.slice A0 sh.length c0) := HC.out.cell 0
      have d1 : w3.cell? ⟨g, 1, none⟩ = some (.slice A1 up.length c1) := HC.out.cell 1
      have d2 : w3.cell? ⟨g, 2, none⟩ = some (.slice AP pa.length cP) := HC.out.cell 2
      have d3 : w3.cell? ⟨g, 3, none⟩ = some (.string (str self)) := HC.out.cell 3
      have d4 : w3.cell? ⟨g, 4, none⟩ = some (.string (str key)) := HC.out.cell 4
      have d5 : w3.cell? ⟨g, 5, none⟩ = some (.int .i64 tries) := HC.out.cell 5
      have hsl0 : sumB sh ≤ 2000 := by omega
      have hul : up.length ≤ 100000 := by have := sumB_len up; omega
      have hpl : pa.length ≤ 100000 := by have := sumB_len pa; omega
      have hri := rings_any w3 _ sh (H0.out.below hB3.out) hsl0
      have hGS := Lib.hid (mkS_good sh)
      have hLn := mkS_len sh
      have hL1 : (mkS sh).length ≤ 1000 := by omega
      clear hLn
      generalize mkS sh = L at *
      go_wp2_with fail
      refine hri.mono ?_
      rintro e w4 ⟨loc, v1, v2, rfl, hr4, hb4⟩
      have hB4 := Lib.hid (Below.next hB3.out hB3.out.size hb4)
      have hC4 := Lib.hid (HC.out.below hb4)
      have hR4 := Lib.hid hr4
      clear HC d0 d1 d2 d3 d4 d5 hgl hri hb4 hr4
      have HC := hC4
      clear hC4
      have hEd := Lib.hid (fun X (hX : Below w4.heap.size w4 X) (vu' : Value) (U : List Bytes) (hU : Rd X 1 vu' U.length (strs U)) (hUl : U.length ≤ 100000) => edge_any X _ loc v1 v2 vu' _ L key self U pa 0 (hR4.out.below hX) hGS.out hL1 (by omega) hU hUl (H2.out.below (Below.next hB4.out hB4.out.size hX)) hpl)
      have hOw := Lib.hid (fun X (hX : Below w4.heap.size w4 X) => shield_owners X _ loc v1 v2 L key (hR4.out.below hX) hGS.out hL1 (by omega))
      have hon := own_nodup (ptsOf L) (Sk.hash 255 key)
      have hoo : ∀ x ∈ own (ptsOf L) (Sk.hash 255 key), x ≠ org ∧ x ≠ [] := fun x hx => by
        obtain ⟨y, hy, e⟩ := List.mem_map.1 (hGS.out.good.own_mem.1 hx)
        have := hGS.out.nm y hy
        rw [← e]
        exact ⟨this.2.2, fun h => by rw [h] at this; simp at this⟩
      have hHu := Lib.hid (fun X (hX : Below w4.heap.size w4 X) => H1.out.below (Below.next hB4.out hB4.out.size hX))
      have hHp := Lib.hid (fun X (hX : Below w4.heap.size w4 X) => H2.out.below (Below.next hB4.out hB4.out.size hX))
      have hCx := Lib.hid (fun X (hX : Below w4.heap.size w4 X) => HC.out.below hX)
      have hFin := Lib.hid (fun X (hX : Below w4.heap.size w4 X) => (show Below w.heap.size w X from Below.next hB4.out hB4.out.size hX))
      have hol := hGS.out.good.own_len (Sk.hash 255 key)
      have hcm := fun x => cands_mem (O := own (ptsOf L) (Sk.hash 255 key)) (up := up) (path := pa) (self := self) (x := x)
      generalize own (ptsOf L) (Sk.hash 255 key) = O at *
      have hol2 := Lib.hid hol
      have Hon := Lib.hid hon
      have Hoo := Lib.hid hoo
      have hgl := HC.out.lt
      have d0 : w4.cell? ⟨g, 0, none⟩ = some (.slice A0 sh.length c0) := HC.out.cell 0
      have d1 : w4.cell? ⟨g, 1, none⟩ = some (.slice A1 up.length c1) := HC.out.cell 1
      have d2 : w4.cell? ⟨g, 2, none⟩ = some (.slice AP pa.length cP) := HC.out.cell 2
      have d3 : w4.cell? ⟨g, 3, none⟩ = some (.string (str self)) := HC.out.cell 3
      have d4 : w4.cell? ⟨g, 4, none⟩ = some (.string (str key)) := HC.out.cell 4
      have d5 : w4.cell? ⟨g, 5, none⟩ = some (.int .i64 tries) := HC.out.cell 5
      clear hol hon hoo hR4 hGS
      by_cases hbad : atN pa self = 0
      · rw [hbad] at hEd
        clear hbad
        have hE0 := hEd.out w4 (Below.refl _ _) (.slice A1 up.length c1) up (hHu.out _ (Below.refl _ _)) hul
        have hcs : ∃ c, cands O up pa self = c := ⟨_, rfl⟩
        obtain ⟨c, hc⟩ := hcs
        rw [hc] at hE0
        have hs0 := edS_at (c := c) (i := 0) (Nat.zero_le _)
        rw [show ((0 : Nat) : Int) = 0 from rfl] at hs0
        rw [hs0.1, hs0.2] at hE0
        clear hs0
        cases c with
        | nil =>
          have hE1 : Calls Tryz.prog 10 #[.string (str self), .pointer (some ⟨loc, 0, none⟩), .slice A1 up.length c1, .string (str key), .slice AP pa.length cP, .int .i64 0] w4 fun e w' => e = .returned (.tuple #[.string (str org), .nilIface]) ∧ Below w4.heap.size w4 w' := hE0
          have q1 : ((str org).toList == [111, 114, 105, 103, 105, 110]) = true := by rw [str_toList]; rfl
          clear hE0 hc hcm hEd
          go_wp2_with fail
          refine hE1.mono ?_
          rintro e w5 ⟨rfl, hb5⟩
          have hB5 := Lib.hid hb5
          clear hb5
          go_wp2_with fail
          go_ret
          exact ⟨rfl, hFin.out _ hB5.out⟩
        | cons s T =>
          have hE1 : Calls Tryz.prog 10 #[.string (str self), .pointer (some ⟨loc, 0, none⟩), .slice A1 up.length c1, .string (str key), .slice AP pa.length cP, .int .i64 0] w4 fun e w' => e = .returned (.tuple #[.string (str s), .nilIface]) ∧ Below w4.heap.size w4 w' := hE0
          have hsm := (hcm s).1 (by rw [hc]; exact List.mem_cons_self ..)
          have hso := (Hoo.out s hsm.1).1
          have q1 : ((str s).toList == [111, 114, 105, 103, 105, 110]) = false := by rw [str_toList, beq_eq_false_iff_ne]; exact hso
          have HsO := Lib.hid hsm.1
          have Hc := Lib.hid hc
          clear hE0 hc hcm hsm hso
          go_wp2_with fail
          refine hE1.mono ?_
          rintro e w5 ⟨rfl, hb5⟩
          have hB5 := Lib.hid hb5
          have hC5 := hCx.out _ hb5
          clear hb5 hE1 d0 d1 d2 d3 d4 d5 hgl HC
          have hgl := hC5.lt
          have d4 : w5.cell? ⟨g, 4, none⟩ = some (.string (str key)) := hC5.cell 4
          clear hC5
          go_wp2_with fail
          refine (hOw.out _ hB5.out).mono ?_
          rintro e w6 ⟨A6, c6, rfl, hR6, hb6⟩
          have hB6 := Lib.hid (Below.next hB5.out hB5.out.size hb6)
          clear hb6 hOw d4
          go_wp2_with fail
          go_loopw [9, 10, 97] (fun pl ch i wr => ∃ k p q : Nat, i = .int .i64 (k : Int) ∧ k ≤ L.length ∧ pl = .int .i64 (p : Int) ∧ ch = .int .i64 (q : Int) ∧ wr = w6 ∧ Hid (At O k other L.length p) ∧ Hid (At O k s 0 q)) (fun _ _ i _ => L.length - (intOf i).toNat)
          case atStart => exact ⟨0, L.length, 0, rfl, by omega, rfl, rfl, rfl, at_zero _ _ _, at_zero _ _ _⟩
          case round =>
            obtain ⟨k, p, q, rfl, hk, rfl, rfl, rfl, hP, hQ⟩ := hrel
            by_cases hlt : k < L.length
            · obtain ⟨A', c', e', -, -, r'⟩ := hR6.out
              cases e'
              obtain ⟨g6, of, rfl, _, x1⟩ := r' (by omega)
              have hkO : k < O.length := by rw [hol2.out]; exact hlt
              have t0 : wr.cell? ⟨g6, of + k, none⟩ = some (.string (str O[k])) := x1 k _ (strs_at hkO)
              have g1 : (0 : Int) ≤ (k : Int) := by omega
              have g2 : (k : Int) < (L.length : Int) := by omega
              have hy1 := fun (h : O[k] = other) => at_yes (d := L.length) hkO h
              have hn1 := fun (h : O[k] ≠ other) => at_no hkO hP.out h
              have hy2 := fun (h : O[k] = s) => at_yes (d := 0) hkO h
              have hn2 := fun (h : O[k] ≠ s) => at_no hkO hQ.out h
              clear x1 r' hP hQ
              generalize O[k] = x at *
              by_cases h1 : x = other
              · have e1 := str_eq h1
                have hp2 := Lib.hid (hy1 h1)
                clear hy1 hn1 h1
                by_cases h2 : x = s
                · have e2 := str_eq h2
                  have hq2 := Lib.hid (hy2 h2)
                  clear hy2 hn2 h2
                  go_wp2_with fail
                  go_roundw
                  case rel => exact ⟨k + 1, k, k, by go_num, by omega, rfl, rfl, by first | rfl | trivial, hp2.out, hq2.out⟩
                  case measure => simp [intOf]; omega
                · have e2 := str_ne h2
                  have hq2 := Lib.hid (hn2 h2)
                  clear hy2 hn2 h2
                  go_wp2_with fail
                  go_roundw
                  case rel => exact ⟨k + 1, k, q, by go_num, by omega, rfl, rfl, by first | rfl | trivial, hp2.out, hq2.out⟩
                  case measure => simp [intOf]; omega
              · have e1 := str_ne h1
                have hp2 := Lib.hid (hn1 h1)
                clear hy1 hn1 h1
                by_cases h2 : x = s
                · have e2 := str_eq h2
                  have hq2 := Lib.hid (hy2 h2)
                  clear hy2 hn2 h2
                  go_wp2_with fail
                  go_roundw
                  case rel => exact ⟨k + 1, p, k, by go_num, by omega, rfl, rfl, by first | rfl | trivial, hp2.out, hq2.out⟩
                  case measure => simp [intOf]; omega
                · have e2 := str_ne h2
                  have hq2 := Lib.hid (hn2 h2)
                  clear hy2 hn2 h2
                  go_wp2_with fail
                  go_roundw
                  case rel => exact ⟨k + 1, p, q, by go_num, by omega, rfl, rfl, by first | rfl | trivial, hp2.out, hq2.out⟩
                  case measure => simp [intOf]; omega
            · have hkL : k = O.length := by rw [hol2.out]; omega
              have hah : Hid (q < p → ∀ A B, O = A ++ s :: B → other ∉ A ∧ other ≠ s) := fun hqp => at_ahead Hon.out HsO.out (by rw [hkL] at hP; rw [hol2.out] at hP ⊢; exact hP.out) (by rw [hkL] at hQ; exact hQ.out) hqp
              clear hP hQ hkL
              have hC6 := hCx.out _ hB6.out
              have hgl := hC6.lt
              have d1 : wr.cell? ⟨g, 1, none⟩ = some (.slice A1 up.length c1) := hC6.cell 1
              have hUr := Lib.hid (hHu.out _ hB6.out)
              clear hC6
              obtain ⟨w6, rfl⟩ : ∃ w6, w6 = wr := ⟨_, rfl⟩
              go_wp2_with fail
              go_loopw [13, 114] (fun o i wr => ∃ j : Nat, i = .int .i64 (j : Int) ∧ j ≤ up.length ∧ Hid (Own wr w6.heap.size 9 1 o ((up.take j).filter (fun y => decide (y ≠ other))).length (strs ((up.take j).filter (fun y => decide (y ≠ other))))) ∧ Hid (Below w6.heap.size w6 wr)) (fun _ i _ => up.length - (intOf i).toNat)
              case atStart => exact ⟨0, rfl, by omega, own_nil _ _ _ _, Below.refl _ _⟩
              case round =>
                obtain ⟨j, rfl, hj, ho, hB⟩ := hrel
                by_cases hlt2 : j < up.length
                · obtain ⟨A', c', e', -, -, r'⟩ := hUr.out.below hB.out
                  cases e'
                  obtain ⟨g7, of, rfl, _, x1⟩ := r' (by omega)
                  have t0 : wr.cell? ⟨g7, of + j, none⟩ = some (.string (str up[j])) := x1 j _ (strs_at hlt2)
                  have htk := take_not hlt2 other
                  have hfl := List.length_filter_le (fun y => decide (y ≠ other)) (up.take j)
                  rw [List.length_take] at hfl
                  have hfl2 : ((up.take j).filter (fun y => decide (y ≠ other))).length ≤ 100000 := by omega
                  have g1 : (0 : Int) ≤ (j : Int) := by omega
                  have g2 : (j : Int) < (up.length : Int) := by omega
                  have hBz := hB.out.size
                  clear x1 r' hfl
                  generalize up[j] = x at *
                  by_cases h1 : x = other
                  · have e1 := str_eq h1
                    rw [if_pos h1, List.append_nil] at htk
                    have hn := Lib.hid htk
                    clear htk h1
                    go_wp2_with fail
                    go_roundw
                    case rel => exact ⟨j + 1, by go_num, by omega, by rw [hn.out]; exact ho.out, hB.out⟩
                    case measure => simp [intOf]; omega
                  · have e1 := str_ne h1
                    rw [if_neg h1] at htk
                    have hn := Lib.hid htk
                    clear htk h1
                    generalize (up.take j).filter (fun y => decide (y ≠ other)) = F at *
                    go_wp2_with (at_builtin; refine push_str _ _ rfl rfl rfl ho.out rfl rfl (by omega) hBz ?_; intro v8 w8 ho8 hb8; replace ho8 := Lib.hid ho8; have hB8 := Lib.hid (hB.out.trans hb8); clear hb8)
                    go_roundw
                    case rel => exact ⟨j + 1, by go_num, by omega, by rw [hn.out, strs_snoc, List.length_append, List.length_singleton]; exact ho8.out, hB8.out⟩
                    case measure => simp [intOf]; omega
                · have hD : up.take j = up := List.take_of_length_le (by omega)
                  rw [hD] at ho
                  have hDl := List.length_filter_le (fun y => decide (y ≠ other)) up
                  have hDm := Lib.hid (fun x (hx : x ≠ other) => (show x ∈ up.filter (fun y => decide (y ≠ other)) ↔ x ∈ up by rw [List.mem_filter]; simp [hx]))
                  have hst := fun (U : List Bytes) (hU : ∀ x, x ≠ other → (x ∈ U ↔ x ∈ up)) (hqp : q < p) => steady Hc.out hU (hah.out hqp)
                  have hst1 := Lib.hid (hst _ hDm.out)
                  have hst2 := Lib.hid (hst (other :: up.filter (fun y => decide (y ≠ other))) (fun x hx => by rw [List.mem_cons]; exact ⟨fun h => (hDm.out x hx).1 (h.resolve_left hx), fun h => Or.inr ((hDm.out x hx).2 h)⟩))
                  clear hD hst
                  generalize up.filter (fun y => decide (y ≠ other)) = D at *
                  have hDl2 : D.length ≤ 2000 := by have := sumB_len up; omega
                  have hB7 := Lib.hid (Below.next hB6.out hB6.out.size hB.out)
                  obtain ⟨w7, rfl⟩ : ∃ w7, w7 = wr := ⟨_, rfl⟩
                  have hob := Lib.hid (Own.base ho.out (Nat.le_refl _))
                  have hbz : w7.heap.size ≤ (w7.alloc (.cells #[.string (str other)] 9)).heap.size := by simp
                  go_wp2_with (at_builtin; refine push_own _ _ rfl rfl rfl (own_made1 w7 other) rfl (ho.out.alloc _) (by omega) hbz ?_; intro v8 w8 ho8 hb8; rw [← strs_app, show 1 + D.length = (other :: D).length by rw [List.length_cons]; omega] at ho8; replace ho8 := Lib.hid ho8; have hB8 := Lib.hid (Below.next hB7.out hB7.out.size (((Below.refl _ w7).alloc (Nat.le_refl _) _).trans hb8)); have hD8 := Lib.hid (Rd.own (own_below ho.out (((Below.refl _ w7).alloc (Nat.le_refl _) (.cells #[.string (str other)] 9)).trans hb8))); have hC8 := hCx.out _ hB8.out; have hgl8 := hC8.lt; have d2 : w8.cell? ⟨g, 2, none⟩ = some (.slice AP pa.length cP) := hC8.cell 2; have d3 : w8.cell? ⟨g, 3, none⟩ = some (.string (str self)) := hC8.cell 3; have d4 : w8.cell? ⟨g, 4, none⟩ = some (.string (str key)) := hC8.cell 4; clear hC8 hb8)
                  have hUr8 := Lib.hid (Rd.own ho8.out)
                  have hE1 := hEd.out w8 hB8.out _ D hD8.out (by omega)
                  rw [show edE 0 (cands O D pa self) 0 = 0 from (edS_at (c := cands O D pa self) (i := 0) (Nat.zero_le _)).2] at hE1
                  have hE1' : Calls Tryz.prog 10 _ w8 fun e w' => e = .returned (.tuple #[.string (str (edS 0 (cands O D pa self) 0)), .nilIface]) ∧ Below w8.heap.size w8 w' := hE1
                  have hsA : Hid (q < p → edS 0 (cands O D pa self) 0 = s) := fun hqp => by
                    obtain ⟨T', hT'⟩ := hst1.out hqp
                    rw [hT']
                    exact (edS_at (c := s :: T') (i := 0) (Nat.zero_le _)).1
                  clear hE1
                  generalize edS 0 (cands O D pa self) 0 = sA at *
                  refine hE1'.mono ?_
                  rintro e w9 ⟨rfl, hb9⟩
                  have hB9 := Lib.hid (Below.next hB8.out hB8.out.size hb9)
                  have hC9 := hCx.out _ hB9.out
                  have hgl9 := hC9.lt
                  have d2 : w9.cell? ⟨g, 2, none⟩ = some (.slice AP pa.length cP) := hC9.cell 2
                  have d3 : w9.cell? ⟨g, 3, none⟩ = some (.string (str self)) := hC9.cell 3
                  have d4 : w9.cell? ⟨g, 4, none⟩ = some (.string (str key)) := hC9.cell 4
                  have hE2 := hEd.out w9 hB9.out v8 (other :: D) (hUr8.out.below hb9) (by rw [List.length_cons]; omega)
                  rw [show edE 0 (cands O (other :: D) pa self) 0 = 0 from (edS_at (c := cands O (other :: D) pa self) (i := 0) (Nat.zero_le _)).2] at hE2
                  have hE2' : Calls Tryz.prog 10 _ w9 fun e w' => e = .returned (.tuple #[.string (str (edS 0 (cands O (other :: D) pa self) 0)), .nilIface]) ∧ Below w9.heap.size w9 w' := hE2
                  have hsB : Hid (q < p → edS 0 (cands O (other :: D) pa self) 0 = s) := fun hqp => by
                    obtain ⟨T', hT'⟩ := hst2.out hqp
                    rw [hT']
                    exact (edS_at (c := s :: T') (i := 0) (Nat.zero_le _)).1
                  clear hE2 hC9 hE1' hb9
                  generalize edS 0 (cands O (other :: D) pa self) 0 = sB at *
                  go_wp2_with fail
                  refine hE2'.mono ?_
                  rintro e w10 ⟨rfl, hb10⟩
                  have hB10 := Lib.hid (Below.next hB9.out hB9.out.size hb10)
                  clear hb10 hE2'
                  by_cases hpq : p ≤ q
                  · have g1 : (p : Int) ≤ (q : Int) := by omega
                    go_wp2_with fail
                    go_ret
                    exact ⟨rfl, hFin.out _ hB10.out⟩
                  · have g1 : ¬ (p : Int) ≤ (q : Int) := by omega
                    obtain rfl := hsA.out (by omega)
                    obtain rfl := hsB.out (by omega)
                    have e1 := str_eq (rfl : sB = sB)
                    go_wp2_with fail
                    go_ret
                    exact ⟨rfl, hFin.out _ hB10.out⟩
      · obtain ⟨h0, hev⟩ := (errV_cases (atN pa self)).resolve_left (fun h => hbad h.1)
        have hE0 := hEd.out w4 (Below.refl _ _) (.slice A1 up.length c1) up (hHu.out _ (Below.refl _ _)) hul
        rw [(edE_bad hbad _ 0).1, (edE_bad hbad _ 0).2, hev] at hE0
        clear hbad hev h0 hEd
        go_wp2_with fail
        refine hE0.mono ?_
        rintro e w5 ⟨rfl, hb5⟩
        have hB5 := Lib.hid hb5
        clear hb5
        go_wp2_with fail
        go_ret
        exact ⟨rfl, hFin.out _ hB5.out⟩
end Go.Proofs.YtkcipebpknapkaaGreatDoor
