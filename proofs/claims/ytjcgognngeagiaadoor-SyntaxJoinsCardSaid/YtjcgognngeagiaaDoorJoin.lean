/-
  Layer 1: Join, the code's and the document's.
-/
import Derived.Test.YtjcgognngeagiaaDoorJoined
import Derived.Test.YtjcgognngeagiaaDoorEWalk
namespace Go.Proofs.YtjcgognngeagiaaDoor
open Go.RowKit Syn

theorem ptext_length (p : List UInt8 × List UInt8) : (ptext p).length ≤ p.1.length + 2 * p.2.length + 3 := by
  have := elem_length p.2
  unfold ptext
  simp only [List.length_append, lower_length, List.length_cons, List.length_nil]; omega
/-- No name and no value is long. -/
def Short (ps : List (List UInt8 × List UInt8)) : Prop := ∀ p ∈ ps, p.1.length + p.2.length ≤ 400
theorem join_text (a b c d : List UInt8) : str a ++ (str b ++ str c ++ str [61] ++ str d) = str (a ++ (b ++ c ++ [61] ++ d)) := by simp only [str_append]
theorem joinGo_at {ps : List (List UInt8 × List UInt8)} {k : Nat} (h : k < ps.length) (acc : List UInt8) : joinGo acc (ps.drop k) = if pgood ps[k] then joinGo (acc ++ 59 :: 32 :: ptext ps[k]) (ps.drop (k + 1)) else none := by
  rw [List.drop_eq_getElem_cons h, joinGo_cons]
set_option maxRecDepth 100000 in
set_option maxHeartbeats 8000000 in
theorem join_any (x : List UInt8) (ps : List (List UInt8 × List UInt8)) (v : Value) (w : World) (hx : x.length ≤ 500) (hl : ps.length ≤ 8) (hs : Short ps) (hR : Rd w 2 v ps.length (prs ps)) :
    Calls Tryd.prog 29 #[.string (str x), v] w fun e w' => e = .returned (.tuple #[.string (str ((joinGo x ps).getD [])), errV (errO (joinGo x ps))]) ∧ Below w.heap.size w w' := by
  obtain ⟨A, cap, rfl, hcap, -, -⟩ := id hR
  replace hR := Lib.hid hR
  replace hs := Lib.hid hs
  go_enter Tryd.func29, Tryd.ntmps29
  go_wp2
  go_loopw [6, 15] (fun t i wr => ∃ (k : Nat) (acc : List UInt8), t = .string (str acc) ∧ i = .int .i64 (k : Int) ∧ k ≤ ps.length ∧ acc.length ≤ 500 + 1000 * k ∧ Hid (joinGo x ps = joinGo acc (ps.drop k)) ∧ Hid (Below w.heap.size w wr)) (fun _ i _ => ps.length - (intOf i).toNat)
  case atStart => exact ⟨0, x, rfl, rfl, by omega, by omega, rfl, Below.refl _ _⟩
  case round =>
    obtain ⟨k, acc, rfl, rfl, hk, hal, hg, hB⟩ := hrel
    have hBw := hB.out.size
    by_cases hlt : k < ps.length
    · obtain ⟨A', cap', e', -, -, r'⟩ := hR.out.below hB.out
      cases e'
      obtain ⟨b1, o1, rfl, _, x1⟩ := r' (by omega)
      have d1 : wr.cell? ⟨b1, o1 + k * 2, none⟩ = some (.string (str ps[k].1)) := x1 _ _ (prs_at0 hlt)
      have d2 : wr.cell? ⟨b1, o1 + k * 2 + 1, none⟩ = some (.string (str ps[k].2)) := x1 _ _ (prs_at1 hlt)
      have hst := hg.out.trans (joinGo_at hlt acc)
      have hsh := hs.out ps[k] (List.getElem_mem hlt)
      clear x1 r' hg
      obtain ⟨⟨n, vv⟩, hp⟩ : ∃ p, ps[k] = p := ⟨_, rfl⟩
      rw [hp] at d1 d2 hst hsh
      clear hp
      have hT1 : ∀ w, Calls Tryd.prog 12 #[.string (str n)] w fun e w' => e = .returned (.bool (isTok n)) ∧ w' = w := fun w => token_any (str n) w (by rw [str_size]; unfold maxLen; simp at hsh; omega)
      have hT2 : ∀ w, Calls Tryd.prog 12 #[.string (str vv)] w fun e w' => e = .returned (.bool (isTok vv)) ∧ w' = w := fun w => token_any (str vv) w (by rw [str_size]; unfold maxLen; simp at hsh; omega)
      have hL : ∀ w, Calls Tryd.prog 39 #[.string (str n)] w fun e w' => e = .returned (.string (str (Syn.lower n))) ∧ Below w.heap.size w w' := fun w => lower_any (str n) w (by rw [str_size]; simp at hsh; omega)
      replace hT1 := Lib.hid hT1
      replace hT2 := Lib.hid hT2
      replace hL := Lib.hid hL
      simp only at d1 d2 hsh
      have hnew := Lib.hid (Blk.new wr 55 #[.string (str n), .string (str vv)])
      cases ht1 : isTok n
      · have hf : Hid (joinGo x ps = none) := Lib.hid (by rw [hst]; unfold pgood; rw [ht1]; rfl)
        rw [ht1] at hT1
        clear hst
        go_wp2_with fail
        refine (hT1.out _).mono ?_
        rintro e w2 ⟨rfl, hw2⟩
        have hB2 : Hid (Below w.heap.size w w2) := Lib.hid (by rw [hw2]; exact hB.out.alloc hBw _)
        clear hw2
        go_wp2
        go_ret2
        exact ⟨by rw [hf.out]; rfl, hB2.out⟩
      · rw [ht1] at hT1
        cases ht2 : isTok vv
        · rw [ht2] at hT2
          cases hc : cln vv
          · have hf : Hid (joinGo x ps = none) := Lib.hid (by rw [hst]; unfold pgood; rw [hc, Bool.and_false]; rfl)
            have hQ : ∀ w, Calls Tryd.prog 20 #[.string (str vv)] w fun e w' => e = .returned (.tuple #[.string ⟨#[]⟩, .iface 32 (.int .i64 2)]) ∧ w' = w := fun w => quote_no (str vv) w (by rw [str_size]; unfold maxLen; omega) hc
            replace hQ := Lib.hid hQ
            clear hst
            go_wp2_with fail
            refine (hT1.out _).mono ?_
            rintro e w2 ⟨rfl, hw2⟩
            have hB2 : Hid (Below w.heap.size w w2) := Lib.hid (by rw [hw2]; exact hB.out.alloc hBw _)
            have hK2 : Blk w2 wr.heap.size 55 #[.string (str n), .string (str vv)] := by rw [hw2]; exact hnew.out
            have c0 : w2.cell? ⟨wr.heap.size, 0, none⟩ = some (.string (str n)) := hK2.cell 0
            have c1 : w2.cell? ⟨wr.heap.size, 1, none⟩ = some (.string (str vv)) := hK2.cell 1
            clear hw2 hK2 d1 d2
            go_wp2_with fail
            refine (hT2.out _).mono ?_
            rintro e w3 ⟨rfl, rfl⟩
            go_wp2_with fail
            refine (hQ.out _).mono ?_
            rintro e w4 ⟨rfl, rfl⟩
            go_wp2
            go_ret2
            exact ⟨by rw [hf.out]; rfl, hB2.out⟩
          · have hst2 : Hid (joinGo x ps = joinGo (acc ++ 59 :: 32 :: ptext (n, vv)) (ps.drop (k + 1))) := Lib.hid (by rw [hst, if_pos (by unfold pgood; rw [ht1, hc]; rfl)])
            have hQ : ∀ w, Calls Tryd.prog 20 #[.string (str vv)] w fun e w' => e = .returned (.tuple #[.string (str (quote vv)), .nilIface]) ∧ Below w.heap.size w w' := fun w => quote_ok (str vv) w (by rw [str_size]; omega) hc
            have hpe : Hid (ptext (n, vv) = Syn.lower n ++ [61] ++ quote vv) := Lib.hid (by unfold ptext elem; rw [if_neg (by rw [ht2]; decide)])
            replace hQ := Lib.hid hQ
            have hql := quote_length vv
            clear hst
            go_wp2_with fail
            refine (hT1.out _).mono ?_
            rintro e w2 ⟨rfl, hw2⟩
            have hB2 : Hid (Below w.heap.size w w2) := Lib.hid (by rw [hw2]; exact hB.out.alloc hBw _)
            have hK2 : Blk w2 wr.heap.size 55 #[.string (str n), .string (str vv)] := by rw [hw2]; exact hnew.out
            have c0 : w2.cell? ⟨wr.heap.size, 0, none⟩ = some (.string (str n)) := hK2.cell 0
            have c1 : w2.cell? ⟨wr.heap.size, 1, none⟩ = some (.string (str vv)) := hK2.cell 1
            replace hK2 := Lib.hid hK2
            clear hw2 d1 d2
            go_wp2_with fail
            refine (hT2.out _).mono ?_
            rintro e w3 ⟨rfl, rfl⟩
            go_wp2_with fail
            refine (hQ.out _).mono ?_
            rintro e w4 ⟨rfl, hb4⟩
            have hK4 := hK2.out.below hb4
            have e0 : w4.cell? ⟨wr.heap.size, 0, none⟩ = some (.string (str n)) := hK4.cell 0
            have hB5 := Lib.hid (Below.next hB2.out hB2.out.size hb4)
            have hBw5 := hB5.out.size
            clear hb4 hK4 c0 c1
            go_wp2_with fail
            refine (hL.out _).mono ?_
            rintro e w6 ⟨rfl, hb6⟩
            have hB6 := Lib.hid (Below.next hB5.out hBw5 hb6)
            have hlow : (str (Syn.lower n)).size ≤ 400 := by rw [str_size, lower_length]; omega
            have hels : (str (quote vv)).size ≤ 802 := by rw [str_size]; omega
            have hacs : (str acc).size ≤ 8500 := by rw [str_size]; omega
            have hjoin := Lib.hid (join_text acc [59, 32] (Syn.lower n) (quote vv))
            have hpl := ptext_length (n, vv)
            simp only at hpl
            go_wp2
            go_roundw
            case rel => exact ⟨k + 1, acc ++ 59 :: 32 :: ptext (n, vv), by refine congrArg Value.string (Eq.trans ?_ (hjoin.out.trans ?_)); rfl; rw [hpe.out]; simp, by go_num, by omega, by simp only [List.length_append, List.length_cons]; omega, hst2, hB6⟩
            case measure => simp [intOf]; omega
        · rw [ht2] at hT2
          have hst2 : Hid (joinGo x ps = joinGo (acc ++ 59 :: 32 :: ptext (n, vv)) (ps.drop (k + 1))) := Lib.hid (by rw [hst, if_pos (by unfold pgood; rw [ht1, tok_clean ht2]; rfl)])
          have hpe : Hid (ptext (n, vv) = Syn.lower n ++ [61] ++ vv) := Lib.hid (by unfold ptext elem; rw [if_pos ht2])
          clear hst
          go_wp2_with fail
          refine (hT1.out _).mono ?_
          rintro e w2 ⟨rfl, hw2⟩
          have hB5 : Hid (Below w.heap.size w w2) := Lib.hid (by rw [hw2]; exact hB.out.alloc hBw _)
          have hBw5 := hB5.out.size
          have hK2 : Blk w2 wr.heap.size 55 #[.string (str n), .string (str vv)] := by rw [hw2]; exact hnew.out
          have c0 : w2.cell? ⟨wr.heap.size, 0, none⟩ = some (.string (str n)) := hK2.cell 0
          have c1 : w2.cell? ⟨wr.heap.size, 1, none⟩ = some (.string (str vv)) := hK2.cell 1
          clear hw2 hK2 d1 d2
          go_wp2_with fail
          refine (hT2.out _).mono ?_
          rintro e w3 ⟨rfl, rfl⟩
          go_wp2_with fail
          refine (hL.out _).mono ?_
          rintro e w6 ⟨rfl, hb6⟩
          have hB6 := Lib.hid (Below.next hB5.out hBw5 hb6)
          have hlow : (str (Syn.lower n)).size ≤ 400 := by rw [str_size, lower_length]; omega
          have hels : (str vv).size ≤ 802 := by rw [str_size]; omega
          have hacs : (str acc).size ≤ 8500 := by rw [str_size]; omega
          have hjoin := Lib.hid (join_text acc [59, 32] (Syn.lower n) vv)
          have hpl := ptext_length (n, vv)
          simp only at hpl
          go_wp2
          go_roundw
          case rel => exact ⟨k + 1, acc ++ 59 :: 32 :: ptext (n, vv), by refine congrArg Value.string (Eq.trans ?_ (hjoin.out.trans ?_)); rfl; rw [hpe.out]; simp, by go_num, by omega, by simp only [List.length_append, List.length_cons]; omega, hst2, hB6⟩
          case measure => simp [intOf]; omega
    · obtain rfl : k = ps.length := by omega
      have hf : Hid (joinGo x ps = some acc) := Lib.hid (by rw [hg.out, List.drop_length]; rfl)
      go_wp2
      go_ret2
      exact ⟨by rw [hf.out]; rfl, hB.out⟩
set_option maxRecDepth 100000 in
set_option maxHeartbeats 8000000 in
theorem rjoin_any (x : List UInt8) (ps : List (List UInt8 × List UInt8)) (v : Value) (w : World) (hx : x.length ≤ 500) (hl : ps.length ≤ 8) (hs : Short ps) (hR : Rd w 2 v ps.length (prs ps)) :
    Calls Tryd.prog 30 #[.string (str x), v] w fun e w' => e = .returned (.tuple #[.string (str ((joinGo x ps).getD [])), .bool (joinGo x ps).isSome]) ∧ Below w.heap.size w w' := by
  obtain ⟨A, cap, rfl, hcap, -, -⟩ := id hR
  replace hR := Lib.hid hR
  replace hs := Lib.hid hs
  go_enter Tryd.func30, Tryd.ntmps30
  go_wp2
  go_loopw [0, 11] (fun t i wr => ∃ (k : Nat) (acc : List UInt8), t = .string (str acc) ∧ i = .int .i64 (k : Int) ∧ k ≤ ps.length ∧ acc.length ≤ 500 + 1000 * k ∧ Hid (joinGo x ps = joinGo acc (ps.drop k)) ∧ Hid (Below w.heap.size w wr)) (fun _ i _ => ps.length - (intOf i).toNat)
  case atStart => exact ⟨0, x, rfl, rfl, by omega, by omega, rfl, Below.refl _ _⟩
  case round =>
    obtain ⟨k, acc, rfl, rfl, hk, hal, hg, hB⟩ := hrel
    have hBw := hB.out.size
    by_cases hlt : k < ps.length
    · obtain ⟨A', cap', e', -, -, r'⟩ := hR.out.below hB.out
      cases e'
      obtain ⟨b1, o1, rfl, hblt, x1⟩ := r' (by omega)
      have d1 : wr.cell? ⟨b1, o1 + k * 2, none⟩ = some (.string (str ps[k].1)) := x1 _ _ (prs_at0 hlt)
      have d2 : wr.cell? ⟨b1, o1 + k * 2 + 1, none⟩ = some (.string (str ps[k].2)) := x1 _ _ (prs_at1 hlt)
      have hst := hg.out.trans (joinGo_at hlt acc)
      have hsh := hs.out ps[k] (List.getElem_mem hlt)
      clear x1 r' hg
      obtain ⟨⟨n, vv⟩, hp⟩ : ∃ p, ps[k] = p := ⟨_, rfl⟩
      rw [hp] at d1 d2 hst hsh
      clear hp
      simp only at d1 d2 hsh
      have hT1 : ∀ w, Calls Tryd.prog 13 #[.string (str n)] w fun e w' => e = .returned (.bool (isTok n)) ∧ w' = w := fun w => rtoken_any (str n) w (by rw [str_size]; unfold maxLen; omega)
      have hT2 : ∀ w, Calls Tryd.prog 13 #[.string (str vv)] w fun e w' => e = .returned (.bool (isTok vv)) ∧ w' = w := fun w => rtoken_any (str vv) w (by rw [str_size]; unfold maxLen; omega)
      have hL : ∀ w, Calls Tryd.prog 31 #[.string (str n)] w fun e w' => e = .returned (.string (str (Syn.lower n))) ∧ Below w.heap.size w w' := fun w => rlower_any (str n) w (by rw [str_size]; omega)
      have hQ : ∀ w, Calls Tryd.prog 25 #[.string (str vv)] w fun e w' => e = .returned (.tuple #[.string (str (quote vv)), .bool (cln vv)]) ∧ Below w.heap.size w w' := fun w => rquote_any (str vv) w (by rw [str_size]; omega)
      replace hT1 := Lib.hid hT1
      replace hT2 := Lib.hid hT2
      replace hL := Lib.hid hL
      replace hQ := Lib.hid hQ
      have hql := quote_length vv
      cases hc : cln vv
      · have hf : Hid (joinGo x ps = none) := Lib.hid (by rw [hst]; unfold pgood; rw [hc, Bool.and_false]; rfl)
        rw [hc] at hQ
        clear hst
        go_wp2_with fail
        refine (hQ.out _).mono ?_
        rintro e w2 ⟨rfl, hb2⟩
        have hB2 := Lib.hid (Below.next hB.out hBw hb2)
        clear hb2
        go_wp2
        go_ret2
        exact ⟨by rw [hf.out]; rfl, hB2.out⟩
      · rw [hc] at hQ
        go_wp2_with fail
        refine (hQ.out _).mono ?_
        rintro e w2 ⟨rfl, hb2⟩
        have hB2 := Lib.hid (Below.next hB.out hBw hb2)
        have c1 : w2.cell? ⟨b1, o1 + k * 2, none⟩ = some (.string (str n)) := (hb2.cell (p := ⟨b1, o1 + k * 2, none⟩) hblt).trans d1
        have c2 : w2.cell? ⟨b1, o1 + k * 2 + 1, none⟩ = some (.string (str vv)) := (hb2.cell (p := ⟨b1, o1 + k * 2 + 1, none⟩) hblt).trans d2
        have hBw2 := hB2.out.size
        clear hb2 d1 d2 hblt
        go_wp2_with fail
        refine (hT1.out _).mono ?_
        rintro e w3 ⟨rfl, rfl⟩
        cases ht1 : isTok n
        · have hf : Hid (joinGo x ps = none) := Lib.hid (by rw [hst]; unfold pgood; rw [ht1]; rfl)
          clear hst
          go_wp2
          go_ret2
          exact ⟨by rw [hf.out]; rfl, hB2.out⟩
        · have hst2 : Hid (joinGo x ps = joinGo (acc ++ 59 :: 32 :: ptext (n, vv)) (ps.drop (k + 1))) := Lib.hid (by rw [hst, if_pos (by unfold pgood; rw [ht1, hc]; rfl)])
          have hlow : (str (Syn.lower n)).size ≤ 400 := by rw [str_size, lower_length]; omega
          have hacs : (str acc).size ≤ 8500 := by rw [str_size]; omega
          have hpl := ptext_length (n, vv)
          simp only at hpl
          clear hst
          go_wp2_with fail
          refine (hT2.out _).mono ?_
          rintro e w4 ⟨rfl, rfl⟩
          cases ht2 : isTok vv
          · have hpe : Hid (ptext (n, vv) = Syn.lower n ++ [61] ++ quote vv) := Lib.hid (by unfold ptext elem; rw [if_neg (by rw [ht2]; decide)])
            have hels : (str (quote vv)).size ≤ 802 := by rw [str_size]; omega
            have hjoin := Lib.hid (join_text acc [59, 32] (Syn.lower n) (quote vv))
            go_wp2_with fail
            refine (hL.out _).mono ?_
            rintro e w6 ⟨rfl, hb6⟩
            have hB6 := Lib.hid (Below.next hB2.out hBw2 hb6)
            clear hb6
            go_wp2
            go_roundw
            case rel => exact ⟨k + 1, acc ++ 59 :: 32 :: ptext (n, vv), by refine congrArg Value.string (Eq.trans ?_ (hjoin.out.trans ?_)); rfl; rw [hpe.out]; simp, by go_num, by omega, by simp only [List.length_append, List.length_cons]; omega, hst2, hB6⟩
            case measure => simp [intOf]; omega
          · have hpe : Hid (ptext (n, vv) = Syn.lower n ++ [61] ++ vv) := Lib.hid (by unfold ptext elem; rw [if_pos ht2])
            have hels : (str vv).size ≤ 802 := by rw [str_size]; omega
            have hjoin := Lib.hid (join_text acc [59, 32] (Syn.lower n) vv)
            go_wp2_with fail
            refine (hL.out _).mono ?_
            rintro e w6 ⟨rfl, hb6⟩
            have hB6 := Lib.hid (Below.next hB2.out hBw2 hb6)
            clear hb6
            go_wp2
            go_roundw
            case rel => exact ⟨k + 1, acc ++ 59 :: 32 :: ptext (n, vv), by refine congrArg Value.string (Eq.trans ?_ (hjoin.out.trans ?_)); rfl; rw [hpe.out]; simp, by go_num, by omega, by simp only [List.length_append, List.length_cons]; omega, hst2, hB6⟩
            case measure => simp [intOf]; omega
    · obtain rfl : k = ps.length := by omega
      have hf : Hid (joinGo x ps = some acc) := Lib.hid (by rw [hg.out, List.drop_length]; rfl)
      go_wp2
      go_ret2
      exact ⟨by rw [hf.out]; rfl, hB.out⟩
end Go.Proofs.YtjcgognngeagiaaDoor
