/-
  Layer 1: Split, the document's.
-/
import Derived.Test.YtjcgognngeagiaaDoorSplit
namespace Go.Proofs.YtjcgognngeagiaaDoor
open Go.RowKit Syn

theorem alloc_size' (w : World) (o : Obj) : (w.alloc o).heap.size = w.heap.size + 1 := Array.size_push ..
set_option maxRecDepth 100000 in
set_option maxHeartbeats 8000000 in
theorem rsplit_any (s : ByteArray) (w : World) (hs : s.size ≤ 500000) :
    Calls Tryd.prog 27 #[.string s] w fun e w' => ∃ v, e = .returned (.tuple #[.string (str (valS (split (bs s)))), v, .bool (split (bs s)).isSome]) ∧ PrsOut w' w.heap.size 54 v (split (bs s)) ∧ Below w.heap.size w w' := by
  have hpa : ∀ w, Calls Tryd.prog 35 #[.string s, .int .u8 59] w fun e w' => ∃ v, e = .returned (.tuple #[v, .bool (parts 59 (bs s)).isSome]) ∧ PartsOut w' w.heap.size v (parts 59 (bs s)) ∧ Below w.heap.size w w' := fun w => rparts_any s 59 w (by omega)
  cases hp : parts 59 (bs s) with
  | none =>
    have hl : Hid (split (bs s) = none) := Lib.hid (by unfold split; rw [hp])
    rw [hp] at hpa
    go_enter Tryd.func27, Tryd.ntmps27
    go_wp2_with fail
    refine (hpa _).mono ?_
    rintro e w1 ⟨v, rfl, hv, hb⟩
    rw [show (none : Option (List (List UInt8))).isSome = false from rfl]
    go_wp2
    go_ret3
    exact ⟨_, by rw [hl.out]; rfl, by rw [hl.out]; rfl, hb⟩
  | some l =>
    obtain ⟨hl0, hle⟩ := parts_most hp
    obtain ⟨x, r, rfl⟩ : ∃ x r, l = x :: r := by
      cases l with
      | nil => simp at hl0
      | cons x r => exact ⟨x, r, rfl⟩
    have hl : Hid (split (bs s) = (paramsGo [] r).map fun ps => (x, ps)) := Lib.hid (by unfold split; rw [hp])
    have hln : r.length ≤ 500000 := by have := parts_len hp; simp at this; omega
    rw [hp] at hpa
    go_enter Tryd.func27, Tryd.ntmps27
    go_wp2_with fail
    refine (hpa _).mono ?_
    rintro e w1 ⟨v, rfl, hv, hb⟩
    rw [show (some (x :: r)).isSome = true from rfl]
    clear hpa hp
    have hR : Rd w1 1 v (r.length + 1) (strs (x :: r)) := Rd.own hv
    obtain ⟨A, cap, rfl, hcap, -, hA⟩ := id hR
    obtain ⟨b1, o1, rfl, hb1, -⟩ := hA (by omega)
    replace hb := Lib.hid hb
    replace hle := Lib.hid hle
    replace hR := Lib.hid hR
    clear hv hl0 hA
    go_wp2
    go_loopw [7, 8] (fun o i wr => ∃ (k : Nat) (acc : List (List UInt8 × List UInt8)), i = .int .i64 ((k : Int) + 1) ∧ k ≤ r.length ∧ acc.length ≤ k ∧ Hid (paramsGo [] r = paramsGo acc (r.drop k)) ∧ Hid (Own wr w1.heap.size 54 2 o acc.length (prs acc)) ∧ Hid (Below w1.heap.size w1 wr)) (fun _ i _ => r.length + 1 - (intOf i).toNat)
    case atStart => exact ⟨0, [], rfl, by omega, by simp, rfl, own_nil _ _ _ _, Below.refl _ _⟩
    case round =>
      obtain ⟨k, acc, rfl, hk, hac, hg, ho, hB⟩ := hrel
      have hBw := hB.out.size
      have hR' := hR.out.below hB.out
      obtain ⟨A', cap', e', -, -, r'⟩ := hR'
      obtain ⟨b3, o3, e3, _, x1⟩ := r' (by omega)
      rw [e3] at e'
      cases e'
      by_cases hlt : k < r.length
      · have d1 : wr.cell? ⟨b1, o1 + (k + 1), none⟩ = some (.string (str r[k])) := x1 (k + 1) _ (strs_at (l := x :: r) (k := k + 1) (by simp; omega))
        have hyl := Lib.hid (hle.out r[k] (by simp))
        have hst := Lib.hid (hg.out.trans ((congrArg (paramsGo acc) (drop_cell hlt)).trans (paramsGo_cons acc r[k] (r.drop (k + 1)))))
        have hi1 : ((k : Int) + 1).toNat = k + 1 := by omega
        clear x1 r'
        generalize r[k] = y at *
        have hyn : y.length ≤ 500000 := by have := hyl.out; rw [bs_length] at this; omega
        cases hye : y.isEmpty
        · have hxe : (str y).toList.isEmpty = false := by rw [str_isEmpty]; exact hye
          have hst2 := hst.out
          rw [hye, if_neg (by decide)] at hst2
          have hP : ∀ w, Calls Tryd.prog 40 #[.string (str y)] w fun e w' => e = .returned (paramV (param y)) ∧ Below w.heap.size w w' := fun w => paramref_any (str y) w (by rw [str_size]; omega)
          clear hst hyl hg
          replace hye := Lib.hid hye
          cases hpy : param y with
          | none =>
            rw [hpy] at hP hst2
            rw [show paramV none = .tuple #[.agg #[.string ⟨#[]⟩, .string ⟨#[]⟩], .bool false] from rfl] at hP
            have hf : Hid (split (bs s) = none) := Lib.hid (by rw [hl.out, hst2]; rfl)
            clear hst2
            replace hP := Lib.hid hP
            go_wp2_with fail
            refine (hP.out _).mono ?_
            rintro e w2 ⟨rfl, hb2⟩
            have hB2 := Lib.hid (Below.next hB.out hBw hb2)
            have hBw2 := hB2.out.size
            clear hb2
            go_wp2
            go_ret3
            exact ⟨_, by rw [hf.out]; rfl, by rw [hf.out]; rfl, Below.next hb.out hb.out.size (hB2.out.alloc hBw2 _)⟩
          | some p =>
            rw [hpy] at hP hst2
            rw [show paramV (some p) = .tuple #[.agg #[.string (str p.1), .string (str p.2)], .bool true] from rfl] at hP
            replace hst2 := Lib.hid hst2
            replace hP := Lib.hid hP
            go_wp2_with fail
            refine (hP.out _).mono ?_
            rintro e w2 ⟨rfl, hb2⟩
            have hB2 := Lib.hid (Below.next hB.out hBw hb2)
            have ho2 := Lib.hid (own_below ho.out hb2)
            have hBw2 := hB2.out.size
            clear hb2
            go_wp2_with (at_builtin; refine push_pair 49 54 Tryd.underlying49 infoR _ _ rfl rfl rfl (own_below ho2.out ((Below.refl _ _).alloc (Nat.le_refl _) _)) (by rw [alloc_size']; rfl) rfl rfl (by omega) (by rw [alloc_size']; omega) ?_; intro v7 w7 ho7 hb7; replace ho7 := Lib.hid ho7; have hB7 := Lib.hid ((hB2.out.alloc hBw2 _).trans hb7); clear hb7)
            go_roundw
            case rel => exact ⟨k + 1, acc ++ [p], by go_num, by omega, by simp; omega, hst2, Lib.hid (by rw [prs_snoc]; simpa using ho7.out), hB7⟩
            case measure => simp [intOf]; omega
        · have hxe : (str y).toList.isEmpty = true := by rw [str_isEmpty]; exact hye
          have hst2 := hst.out
          rw [hye, if_pos rfl] at hst2
          replace hst2 := Lib.hid hst2
          clear hst hye hyl
          go_wp2
          go_roundw
          case rel => exact ⟨k + 1, acc, by go_num, by omega, by omega, hst2, ho, hB⟩
          case measure => simp [intOf]; omega
      · obtain rfl : k = r.length := by omega
        have d1 : wr.cell? ⟨b1, o1, none⟩ = some (.string (str x)) := x1 0 _ rfl
        have hf : Hid (split (bs s) = some (x, acc)) := Lib.hid (by rw [hl.out, hg.out, List.drop_length]; rfl)
        have hown := Lib.hid (own_mono ho.out hb.out.size)
        clear x1 r' hg
        go_wp2
        go_ret3
        exact ⟨_, by rw [hf.out]; rfl, by rw [hf.out]; exact hown.out, Below.next hb.out hb.out.size hB.out⟩
end Go.Proofs.YtjcgognngeagiaaDoor
