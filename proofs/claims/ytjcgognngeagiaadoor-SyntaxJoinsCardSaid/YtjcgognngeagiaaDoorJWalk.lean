/-
  The walk of SyntaxJoins.
-/
import Derived.Test.YtjcgognngeagiaaDoorJoin
import Derived.Deep.RegionHeld3
namespace Go.Proofs.YtjcgognngeagiaaDoor
open Go.RowKit Syn

theorem tails_length : ∀ ps : List (List UInt8 × List UInt8), Short ps → (tails ps).length ≤ ps.length * 1000
  | [], _ => by simp [tails]
  | p :: r, h => by
    have h1 := tails_length r fun q hq => h q (by simp [hq])
    have h2 := h p (by simp)
    have h3 := ptext_length p
    have e : tails (p :: r) = 59 :: 32 :: ptext p ++ tails r := by simp [tails]
    rw [e, List.length_append, List.length_cons, List.length_cons, List.length_cons]; omega
/-- What the last loop's region reads. -/
def SJ (wr : World) (b1 o1 b3 o3 k : Nat) (n m v : ByteArray) (w : World) : Prop :=
  Below wr.heap.size wr w ∧ w.cell? ⟨b3, o3 + k * 2, none⟩ = some (.string m) ∧ w.cell? ⟨b3, o3 + k * 2 + 1, none⟩ = some (.string v) ∧ w.cell? ⟨b1, o1 + k * 2, none⟩ = some (.string n) ∧ w.cell? ⟨b1, o1 + k * 2 + 1, none⟩ = some (.string v)
theorem SJ.below {wr w w' : World} {b1 o1 b3 o3 k : Nat} {n m v : ByteArray} (h : SJ wr b1 o1 b3 o3 k n m v w) (h1 : b1 < wr.heap.size) (h3 : b3 < wr.heap.size) (hb : Below w.heap.size w w') : SJ wr b1 o1 b3 o3 k n m v w' := by
  obtain ⟨hB, a, b, c, d⟩ := h
  have l1 : b1 < w.heap.size := Nat.lt_of_lt_of_le h1 hB.size
  have l3 : b3 < w.heap.size := Nat.lt_of_lt_of_le h3 hB.size
  exact ⟨hB.trans (hb.mono hB.size), (hb.cell (p := ⟨b3, o3 + k * 2, none⟩) l3).trans a, (hb.cell (p := ⟨b3, o3 + k * 2 + 1, none⟩) l3).trans b, (hb.cell (p := ⟨b1, o1 + k * 2, none⟩) l1).trans c, (hb.cell (p := ⟨b1, o1 + k * 2 + 1, none⟩) l1).trans d⟩
set_option maxRecDepth 100000 in
set_option maxHeartbeats 16000000 in
theorem joins_walk (s : ByteArray) (ps : List (List UInt8 × List UInt8)) (v : Value) (w : World) (hs : s.size ≤ maxLen) (hR : Rd w 2 v ps.length (prs ps)) (hbig : ∀ p ∈ ps, p.1.length ≤ 140737488355328 ∧ p.2.length ≤ 140737488355328) (hpm : ps.length ≤ maxLen) :
    Calls Tryd.prog 10 #[.string s, v] w fun e w' => e = .returned (.bool true) ∧ Below w.heap.size w w' := by
  unfold maxLen at hs hpm
  obtain ⟨x, rfl⟩ : ∃ x, s = str x := ⟨bs s, (str_bs s).symm⟩
  obtain ⟨A, cap, rfl, hcap, -, -⟩ := id hR
  by_cases h4 : 400 < (str x).size
  · go_enter Tryd.func10, Tryd.ntmps10
    go_wp2_with fail
    refine (awake_any _).mono ?_
    rintro e w1 ⟨rfl, hb1⟩
    replace hb1 := Lib.hid hb1
    go_wp2_with fail
    refine (awake_any _).mono ?_
    rintro e w2 ⟨rfl, hb2⟩
    go_wp2
    go_ret
    exact ⟨rfl, hb1.out.trans (hb2.mono hb1.out.size)⟩
  by_cases h8 : 8 < ps.length
  · go_enter Tryd.func10, Tryd.ntmps10
    go_wp2_with fail
    refine (awake_any _).mono ?_
    rintro e w1 ⟨rfl, hb1⟩
    replace hb1 := Lib.hid hb1
    go_wp2_with fail
    refine (awake_any _).mono ?_
    rintro e w2 ⟨rfl, hb2⟩
    go_wp2
    go_ret
    exact ⟨rfl, hb1.out.trans (hb2.mono hb1.out.size)⟩
  replace hbig := Lib.hid hbig
  go_enter Tryd.func10, Tryd.ntmps10
  go_wp2_with fail
  refine (awake_any _).mono ?_
  rintro e w1 ⟨rfl, hb1⟩
  replace hR := Lib.hid (hR.below hb1)
  replace hb1 := Lib.hid hb1
  go_wp2
  go_loopw [5, 31] (fun t i wr => ∃ k : Nat, i = .int .i64 (k : Int) ∧ k ≤ ps.length ∧ Hid (Short (ps.take k)) ∧ Hid (Own wr w1.heap.size 55 2 t k (prs (ps.take k))) ∧ Hid (Below w1.heap.size w1 wr)) (fun _ i _ => ps.length - (intOf i).toNat)
  case atStart => exact ⟨0, rfl, by omega, (fun p hp => by simp at hp), own_nil _ _ _ _, Below.refl _ _⟩
  case round =>
    obtain ⟨k, rfl, hk, hsh, ho, hB⟩ := hrel
    have hBw := hB.out.size
    by_cases hlt : k < ps.length
    · obtain ⟨A', cap', e', -, -, r'⟩ := hR.out.below hB.out
      cases e'
      obtain ⟨b1, o1, rfl, _, x1⟩ := r' (by omega)
      have d1 : wr.cell? ⟨b1, o1 + k * 2, none⟩ = some (.string (str ps[k].1)) := x1 _ _ (prs_at0 hlt)
      have d2 : wr.cell? ⟨b1, o1 + k * 2 + 1, none⟩ = some (.string (str ps[k].2)) := x1 _ _ (prs_at1 hlt)
      have hbg := hbig.out ps[k] (List.getElem_mem hlt)
      have htk := Lib.hid (List.take_succ_eq_append_getElem hlt)
      clear x1 r'
      generalize ps[k] = p at *
      obtain ⟨n, vv⟩ := p
      simp only at d1 d2 hbg
      have hz1 := str_size n
      have hz2 := str_size vv
      by_cases h400 : 400 < n.length + vv.length
      · have hd : decide ((400 : Int) < ((str n).size : Int) + ((str vv).size : Int)) = true := by rw [decide_eq_true_iff]; omega
        go_wp2
        go_ret
        exact ⟨rfl, Below.next hb1.out hb1.out.size (hB.out.alloc hBw _)⟩
      · have hd : decide ((400 : Int) < ((str n).size : Int) + ((str vv).size : Int)) = false := by rw [decide_eq_false_iff_not]; omega
        have hsh2 : Hid (Short (ps.take (k + 1))) := Lib.hid (by
          rw [htk.out]
          intro q hq
          rw [List.mem_append, List.mem_singleton] at hq
          rcases hq with hq | rfl
          · exact hsh.out q hq
          · show n.length + vv.length ≤ 400; omega)
        go_wp2_with (at_builtin; refine push_pair 46 55 Tryd.underlying46 infoP _ _ rfl rfl rfl (own_below ho.out ((Below.refl _ _).alloc (Nat.le_refl _) _)) (by rw [alloc_size']; rfl) rfl rfl (by omega) (by rw [alloc_size']; omega) ?_; intro v7 w7 ho7 hb7; replace ho7 := Lib.hid ho7; have hB7 := Lib.hid ((hB.out.alloc hBw _).trans hb7); clear hb7)
        go_roundw
        case rel => exact ⟨k + 1, by go_num, by omega, hsh2, Lib.hid (by rw [htk.out, prs_snoc]; exact ho7.out), hB7⟩
        case measure => simp [intOf]; omega
    · obtain rfl : k = ps.length := by omega
      rw [List.take_length] at hsh ho
      have hin := Lib.hid (show Rd wr 2 u5 ps.length (prs ps) from Rd.own ho.out)
      have hR1 := Lib.hid (hR.out.below hB.out)
      have hB1 := Lib.hid (Below.next hb1.out hb1.out.size hB.out)
      have hxl : x.length ≤ 400 := by have := str_size x; omega
      have hl8 : ps.length ≤ 8 := by omega
      have hJ := fun w h => join_any x ps u5 w (by omega) hl8 hsh.out h
      have hK := fun w h => rjoin_any x ps (.slice A ps.length cap) w (by omega) hl8 hsh.out h
      clear hR hB ho
      cases hj : joinGo x ps with
      | none =>
        rw [hj] at hJ hK
        have hJ2 : ∀ w, Rd w 2 u5 ps.length (prs ps) → Calls Tryd.prog 29 #[.string (str x), u5] w fun e w' => e = .returned (.tuple #[.string ⟨#[]⟩, errV 2]) ∧ Below w.heap.size w w' := hJ
        have hK2 : ∀ w, Rd w 2 (.slice A ps.length cap) ps.length (prs ps) → Calls Tryd.prog 30 #[.string (str x), .slice A ps.length cap] w fun e w' => e = .returned (.tuple #[.string ⟨#[]⟩, .bool false]) ∧ Below w.heap.size w w' := hK
        have hI : ∀ w, Calls Tryd.prog 16 #[errV 2, .int .i64 2] w fun e w' => e = .returned (.bool true) ∧ w' = w := fun w => is_any 2 2 w
        have hem : (⟨#[]⟩ : ByteArray).toList.isEmpty = true := by rw [show (⟨#[]⟩ : ByteArray) = str [] from rfl, str_isEmpty]; rfl
        clear hJ hK
        generalize errV 2 = ev at *
        replace hJ2 := Lib.hid hJ2
        replace hK2 := Lib.hid hK2
        replace hI := Lib.hid hI
        go_wp2_with fail
        refine (hJ2.out _ hin.out).mono ?_
        rintro e w2 ⟨rfl, hb2⟩
        have hR2 := Lib.hid (hR1.out.below hb2)
        have hB2 := Lib.hid (Below.next hB1.out hB1.out.size hb2)
        clear hb2
        go_wp2_with fail
        refine (hK2.out _ hR2.out).mono ?_
        rintro e w3 ⟨rfl, hb3⟩
        have hB3 := Lib.hid (Below.next hB2.out hB2.out.size hb3)
        clear hb3
        go_wp2_with fail
        refine (hI.out _).mono ?_
        rintro e w4 ⟨rfl, rfl⟩
        go_wp2
        go_ret
        exact ⟨rfl, hB3.out⟩
      | some g =>
        have hgl : g.length ≤ 8400 := by
          have h1 := (joinGo_eq ps x g hj).1
          have h2 := tails_length ps hsh.out
          rw [h1, List.length_append]; omega
        rw [hj] at hJ hK
        have hJ2 : ∀ w, Rd w 2 u5 ps.length (prs ps) → Calls Tryd.prog 29 #[.string (str x), u5] w fun e w' => e = .returned (.tuple #[.string (str g), .nilIface]) ∧ Below w.heap.size w w' := hJ
        have hK2 : ∀ w, Rd w 2 (.slice A ps.length cap) ps.length (prs ps) → Calls Tryd.prog 30 #[.string (str x), .slice A ps.length cap] w fun e w' => e = .returned (.tuple #[.string (str g), .bool true]) ∧ Below w.heap.size w w' := hK
        have hS1 := fun w => split_any (str x) w (by rw [str_size]; omega)
        have hS2 := fun w => split_any (str g) w (by rw [str_size]; omega)
        rw [bs_str] at hS1 hS2
        have hgg : ((str g).toList == (str g).toList) = true := beq_self_eq_true _
        clear hJ hK
        replace hJ2 := Lib.hid hJ2
        replace hK2 := Lib.hid hK2
        replace hS1 := Lib.hid hS1
        replace hS2 := Lib.hid hS2
        replace hj := Lib.hid hj
        go_wp2_with fail
        refine (hJ2.out _ hin.out).mono ?_
        rintro e w2 ⟨rfl, hb2⟩
        have hR2 := Lib.hid (hR1.out.below hb2)
        have hB2 := Lib.hid (Below.next hB1.out hB1.out.size hb2)
        clear hb2
        go_wp2_with fail
        refine (hK2.out _ hR2.out).mono ?_
        rintro e w3 ⟨rfl, hb3⟩
        have hR3 := Lib.hid (hR2.out.below hb3)
        have hB3 := Lib.hid (Below.next hB2.out hB2.out.size hb3)
        clear hb3
        go_wp2_with fail
        refine (hS1.out _).mono ?_
        rintro e w4 ⟨v4, rfl, hv4, hb4⟩
        have hR4 := Lib.hid (hR3.out.below hb4)
        have hB4 := Lib.hid (Below.next hB3.out hB3.out.size hb4)
        clear hb4
        cases hs1 : split x with
        | none =>
          clear hv4
          rw [show errV (errO (none : Option (List UInt8 × List (List UInt8 × List UInt8)))) = .iface 32 (.int .i64 2) from rfl]
          go_wp2
          go_ret
          exact ⟨rfl, hB4.out⟩
        | some q =>
          obtain ⟨y, ps1⟩ := q
          rw [hs1] at hv4
          have hv5 : Rd w4 2 v4 ps1.length (prs ps1) := hv4.rd
          obtain ⟨A4, c4, rfl, -, -, -⟩ := hv5
          clear hv4
          rw [show errV (errO (some (y, ps1))) = .nilIface from rfl, show valS (some (y, ps1)) = y from rfl]
          by_cases hy : y = x
          · subst hy
            have hyy : ((str y).toList == (str y).toList) = true := beq_self_eq_true _
            cases ps1 with
            | cons p1 pr =>
              have hne : (((p1 :: pr).length : Int) == 0) = false := by simp; omega
              have hne2 : (((p1 :: pr).length : Int) != 0) = true := by simp; omega
              replace hs1 := Lib.hid hs1
              generalize (p1 :: pr).length = m at *
              go_wp2
              go_ret
              exact ⟨rfl, hB4.out⟩
            | nil =>
              have hs2 := Lib.hid (split_join hs1 hj.out)
              replace hs1 := Lib.hid hs1
              go_wp2_with fail
              refine (hS2.out _).mono ?_
              rintro e w5 ⟨v5, rfl, hv5, hb5⟩
              have hR5 := Lib.hid (hR4.out.below hb5)
              have hB5 := Lib.hid (Below.next hB4.out hB4.out.size hb5)
              clear hb5
              rw [hs2.out] at hv5 ⊢
              rw [show errV (errO (some (y, ps.map fun p => (Syn.lower p.1, p.2)))) = .nilIface from rfl, show valS (some (y, ps.map fun p => (Syn.lower p.1, p.2))) = y from rfl]
              have hv6 : Rd w5 2 v5 (ps.map fun p => (Syn.lower p.1, p.2)).length (prs (ps.map fun p => (Syn.lower p.1, p.2))) := hv5.rd
              rw [List.length_map] at hv6
              obtain ⟨A5, c5, rfl, hc5, -, -⟩ := id hv6
              replace hv6 := Lib.hid hv6
              clear hv5
              have hll := beq_self_eq_true ((ps.length : Int))
              go_wp2
              go_loopw [15, 119] (fun _ i wr => ∃ k : Nat, i = .int .i64 (k : Int) ∧ k ≤ ps.length ∧ Hid (Below w5.heap.size w5 wr)) (fun _ i _ => ps.length - (intOf i).toNat)
              case atStart => exact ⟨0, rfl, by omega, Below.refl _ _⟩
              case round =>
                obtain ⟨k, rfl, hk, hB⟩ := hrel
                have hBw := hB.out.size
                by_cases hlt : k < ps.length
                · obtain ⟨A', cap', e', -, -, r'⟩ := hR5.out.below hB.out
                  cases e'
                  obtain ⟨b1, o1, rfl, hl1, x1⟩ := r' (by omega)
                  obtain ⟨A', cap', e', -, -, r2⟩ := hv6.out.below hB.out
                  cases e'
                  obtain ⟨b3, o3, rfl, hl3, x3⟩ := r2 (by omega)
                  have hlt2 : k < (ps.map fun p => (Syn.lower p.1, p.2)).length := by rw [List.length_map]; exact hlt
                  have d1 : wr.cell? ⟨b1, o1 + k * 2, none⟩ = some (.string (str ps[k].1)) := x1 _ _ (prs_at0 hlt)
                  have d2 : wr.cell? ⟨b1, o1 + k * 2 + 1, none⟩ = some (.string (str ps[k].2)) := x1 _ _ (prs_at1 hlt)
                  have d3 : wr.cell? ⟨b3, o3 + k * 2, none⟩ = some (.string (str (Syn.lower ps[k].1))) := by
                    have := x3 _ _ (prs_at0 hlt2); rw [List.getElem_map] at this; exact this
                  have d4 : wr.cell? ⟨b3, o3 + k * 2 + 1, none⟩ = some (.string (str ps[k].2)) := by
                    have := x3 _ _ (prs_at1 hlt2); rw [List.getElem_map] at this; exact this
                  have hsh2 := hsh.out ps[k] (List.getElem_mem hlt)
                  clear x1 x3 r' r2 hlt2
                  generalize ps[k] = p at *
                  obtain ⟨n, vv⟩ := p
                  simp only at d1 d2 d3 d4 hsh2
                  have hL : ∀ w, Calls Tryd.prog 31 #[.string (str n)] w fun e w' => e = .returned (.string (str (Syn.lower n))) ∧ Below w.heap.size w w' := fun w => rlower_any (str n) w (by rw [str_size]; omega)
                  have L : SJ wr b1 o1 b3 o3 k (str n) (str (Syn.lower n)) (str vv) wr := ⟨Below.refl _ _, d3, d4, d1, d2⟩
                  have q1 : ((str (Syn.lower n)).toList == (str (Syn.lower n)).toList) = true := beq_self_eq_true _
                  have q2 : ((str vv).toList == (str vv).toList) = true := beq_self_eq_true _
                  replace hsh2 := Lib.hid hsh2
                  generalize str n = sn at *
                  generalize str (Syn.lower n) = sl at *
                  generalize str vv = sv at *
                  have hL' := Lib.hid hL
                  clear hL
                  go_wp2_with fail
                  go_region_held3 (fun w' => Below wr.heap.size wr w' ∧ w'.cell? ⟨b3, o3 + k * 2, none⟩ = some (.string sl) ∧ w'.cell? ⟨b3, o3 + k * 2 + 1, none⟩ = some (.string sv) ∧ w'.cell? ⟨b1, o1 + k * 2, none⟩ = some (.string sn) ∧ w'.cell? ⟨b1, o1 + k * 2 + 1, none⟩ = some (.string sv))
                    (first | exact L | exact SJ.below L hl1 hl3 (Below.refl _ _).drew | exact SJ.below (by assumption) hl1 hl3 (by assumption))
                    (first | (go_at_call 31; refine (hL'.out _).mono ?_; rintro e w6 ⟨rfl, hb6⟩))
                  have hH : SJ wr b1 o1 b3 o3 k sn sl sv w6 := by assumption
                  have hB7 := Lib.hid (hB.out.trans (hH.1.mono hB.out.size))
                  clear hH L d1 d2 d3 d4
                  go_wp2
                  go_roundw
                  case rel => exact ⟨k + 1, by go_num, by omega, hB7⟩
                  case measure => simp [intOf]; omega
                · go_wp2
                  go_ret
                  exact ⟨rfl, Below.next hB5.out hB5.out.size hB.out⟩
          · have hyn := str_ne hy
            replace hs1 := Lib.hid hs1
            replace hy := Lib.hid hy
            go_wp2
            go_ret
            exact ⟨rfl, hB4.out⟩
end Go.Proofs.YtjcgognngeagiaaDoor
