/-
  The walk of SyntaxSplits.
-/
import Derived.Test.YtjcgognngeagiaaDoorRSplit
import Derived.Test.YtjcgognngeagiaaDoorAwake
namespace Go.Proofs.YtjcgognngeagiaaDoor
open Go.RowKit Syn

theorem prs_at0 : ∀ {l : List (List UInt8 × List UInt8)} {k : Nat} (h : k < l.length), (prs l)[k * 2]? = some (.string (str l[k].1))
  | p :: l, 0, _ => by simp [prs]
  | p :: l, k + 1, h => by
    have := prs_at0 (l := l) (k := k) (by simpa using h)
    rw [show (k + 1) * 2 = k * 2 + 1 + 1 from by omega]
    simpa [prs] using this
theorem prs_at1 : ∀ {l : List (List UInt8 × List UInt8)} {k : Nat} (h : k < l.length), (prs l)[k * 2 + 1]? = some (.string (str l[k].2))
  | p :: l, 0, _ => by simp [prs]
  | p :: l, k + 1, h => by
    have := prs_at1 (l := l) (k := k) (by simpa using h)
    rw [show (k + 1) * 2 + 1 = k * 2 + 1 + 1 + 1 from by omega]
    simpa [prs] using this
set_option maxHeartbeats 2000000 in
theorem params_same {v1 v2 : Value} {l : List (List UInt8 × List UInt8)} (w : World) (h1 : Rd w 2 v1 l.length (prs l)) (h2 : Rd w 2 v2 l.length (prs l)) (hm : l.length ≤ 1000000000) :
    Calls Tryd.prog 28 #[v1, v2] w fun e w' => e = .returned (.bool true) ∧ ∃ n, w' = w.drewN n := by
  obtain ⟨A1, c1, rfl, hc1, -, r1⟩ := h1
  obtain ⟨A2, c2, rfl, hc2, -, r2⟩ := h2
  have hbeq := beq_self_eq_true ((l.length : Int))
  go_enter Tryd.func28, Tryd.ntmps28
  go_wp2
  go_loopw [5, 13] (fun _ i wr => ∃ k m : Nat, i = .int .i64 k ∧ k ≤ l.length ∧ wr = w.drewN m) (fun _ i _ => l.length - (intOf i).toNat)
  case atStart => exact ⟨0, 0, rfl, by omega, rfl⟩
  case round =>
    obtain ⟨k, m, rfl, hk, hw⟩ := hrel
    by_cases hlt : k < l.length
    · obtain ⟨b1, o1, rfl, _, x1⟩ := r1 (by omega)
      obtain ⟨b2, o2, rfl, _, x2⟩ := r2 (by omega)
      have d1 : wr.cell? ⟨b1, o1 + k * 2, none⟩ = some (.string (str l[k].1)) := by rw [hw]; exact x1 _ _ (prs_at0 hlt)
      have d2 : wr.cell? ⟨b2, o2 + k * 2, none⟩ = some (.string (str l[k].1)) := by rw [hw]; exact x2 _ _ (prs_at0 hlt)
      have d3 : wr.cell? ⟨b1, o1 + k * 2 + 1, none⟩ = some (.string (str l[k].2)) := by rw [hw]; exact x1 _ _ (prs_at1 hlt)
      have d4 : wr.cell? ⟨b2, o2 + k * 2 + 1, none⟩ = some (.string (str l[k].2)) := by rw [hw]; exact x2 _ _ (prs_at1 hlt)
      have Hw := Lib.hid hw
      clear hw x1 x2 r1 r2
      go_wp2_with fail
      go_quiet (fail)
      go_wp2
      go_roundw
      case rel => exact ⟨k + 1, m + nq, by go_num, by omega, by rw [Hw.out, World.drewN_drewN]⟩
      case measure => simp [intOf]; omega
    · go_wp2
      go_ret
      exact ⟨rfl, m, rfl⟩
theorem code_any (b : Bool) (w : World) : Calls Tryd.prog 24 #[.bool b] w fun e w' => e = .returned (.int .i64 (if b then 0 else 2)) ∧ w' = w := by
  cases b
  · go_enter Tryd.func24, Tryd.ntmps24
    go_wp2
    go_ret
    exact ⟨rfl, rfl⟩
  · go_enter Tryd.func24, Tryd.ntmps24
    go_wp2
    go_ret
    exact ⟨rfl, rfl⟩
/-- The pairs of an answer. -/
def pairsS (o : Option (List UInt8 × List (List UInt8 × List UInt8))) : List (List UInt8 × List UInt8) := (o.map (·.2)).getD []
theorem PrsOut.rd {w : World} {B : Nat} {t : TypeId} {v : Value} {o : Option (List UInt8 × List (List UInt8 × List UInt8))} (h : PrsOut w B t v o) : Rd w 2 v (pairsS o).length (prs (pairsS o)) := by
  cases o with
  | none => have e : v = .slice none 0 0 := h; rw [e]; exact Rd.nil w 2
  | some p => exact Rd.own (show w.ownsRow B t 2 v p.2.length (prs p.2) from h)
theorem paramsGo_len : ∀ (r : List (List UInt8)) (acc l : List (List UInt8 × List UInt8)), paramsGo acc r = some l → l.length ≤ acc.length + r.length
  | [], acc, l, h => by rw [paramsGo] at h; cases h; simp
  | x :: r, acc, l, h => by
    rw [paramsGo_cons] at h
    split at h
    · have := paramsGo_len r acc l h; simp; omega
    · split at h
      · cases h
      · have := paramsGo_len r _ l h; simp at this ⊢; omega
theorem pairs_len (s : ByteArray) : (pairsS (split (bs s))).length ≤ s.size + 1 := by
  unfold split
  cases hp : parts 59 (bs s) with
  | none => simp [pairsS]
  | some l =>
    have := parts_len hp
    cases l with
    | nil => simp [pairsS]
    | cons x r =>
      simp only [List.length_cons] at this
      show (pairsS ((paramsGo [] r).map fun ps => (x, ps))).length ≤ _
      cases hg : paramsGo [] r with
      | none => simp [pairsS]
      | some ps =>
        have h2 := paramsGo_len r [] ps hg
        simp at h2
        show ps.length ≤ _
        omega
set_option maxRecDepth 100000 in
set_option maxHeartbeats 2000000 in
theorem splits_walk (s : ByteArray) (w : World) (hs : s.size ≤ maxLen) :
    Calls Tryd.prog 9 #[.string s] w fun e w' => e = .returned (.bool true) ∧ Below w.heap.size w w' := by
  unfold maxLen at hs
  by_cases h4 : 400 < s.size
  · go_enter Tryd.func9, Tryd.ntmps9
    go_wp2_with fail
    refine (awake_any _).mono ?_
    rintro e w1 ⟨rfl, hb1⟩
    replace hb1 := Lib.hid hb1
    go_wp2_with fail
    refine (awake_any _).mono ?_
    rintro e w2 ⟨rfl, hb2⟩
    go_wp2
    go_ret
    exact ⟨rfl, hb1.out.trans (hb2.mono hb1.out.size)⟩
  · have hL := fun w => split_any s w (by omega)
    have hR := fun w => rsplit_any s w (by omega)
    have hC := fun w => code_any (split (bs s)).isSome w
    have hN := fun w => num_any (errO (split (bs s))) w
    have hpl := pairs_len s
    have hceq : (if (split (bs s)).isSome then (0 : Int) else 2) = errO (split (bs s)) := rfl
    rw [hceq] at hC
    generalize hsp : split (bs s) = o at *
    generalize str (valS o) = x at *
    generalize o.isSome = ok at *
    generalize errO o = n at *
    have hxx : (x.toList == x.toList) = true := beq_self_eq_true _
    have hnn := beq_self_eq_true n
    replace hL := Lib.hid hL
    replace hR := Lib.hid hR
    replace hN := Lib.hid hN
    go_enter Tryd.func9, Tryd.ntmps9
    go_wp2_with fail
    refine (awake_any _).mono ?_
    rintro e w1 ⟨rfl, hb1⟩
    replace hb1 := Lib.hid hb1
    go_wp2_with fail
    refine (hL.out _).mono ?_
    rintro e w2 ⟨v2, rfl, hv2, hb2⟩
    replace hv2 := Lib.hid hv2.rd
    replace hb2 := Lib.hid hb2
    generalize errV n = en at *
    go_wp2_with fail
    refine (hR.out _).mono ?_
    rintro e w3 ⟨v3, rfl, hv3, hb3⟩
    replace hv2 := Lib.hid (hv2.out.below hb3)
    replace hv3 := Lib.hid hv3.rd
    have hB := Lib.hid ((hb1.out.trans (hb2.out.mono hb1.out.size)).trans (hb3.mono (Nat.le_trans hb1.out.size hb2.out.size)))
    clear hb1 hb2 hb3
    go_wp2_with fail
    refine (hN.out _).mono ?_
    rintro e w4 ⟨rfl, rfl⟩
    go_wp2_with fail
    refine (hC _).mono ?_
    rintro e w5 ⟨rfl, rfl⟩
    go_wp2_with fail
    refine (params_same _ hv2.out hv3.out (by omega)).mono ?_
    rintro e w6 ⟨rfl, nd, rfl⟩
    go_wp2
    go_ret
    exact ⟨rfl, below_drewN hB.out _⟩
end Go.Proofs.YtjcgognngeagiaaDoor
