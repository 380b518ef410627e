/-
  The document's Lenient.
-/
import Derived.Test.YtodgkppjabhhlaaDoorFRPieces
import Derived.Test.YtodgkppjabhhlaaDoorFReq
namespace Go.Proofs.YtodgkppjabhhlaaDoor
open Go.RowKit Syn Fr

def pairV (p : Nat × Nat) : Value := .agg #[.int .i64 (p.1 : Int), .int .i64 (p.2 : Int)]
def lenI (o : Option Nat) : Int := match o with | some n => (n : Int) | none => -1
theorem pieces_short {V : List Bytes} (h : ∀ v ∈ V, v.length ≤ 5000) : ∀ x ∈ piecesOf V, x.length ≤ 5000 := fun x hx => by
  unfold piecesOf at hx
  rw [List.mem_map] at hx
  obtain ⟨y, hy, rfl⟩ := hx
  rw [List.mem_flatMap] at hy
  obtain ⟨v, hv, hy⟩ := hy
  exact Nat.le_trans (trim_le y) (Nat.le_trans (sp_most 44 v y hy) (h v hv))
theorem firstN_drop {P : List Bytes} {j : Nat} (h : j < P.length) : firstN (P.drop j) = if (number P[j]).2 = 0 then some (number P[j]).1 else firstN (P.drop (j + 1)) := by
  rw [List.drop_eq_getElem_cons h]; rfl
theorem any_take {P : List Bytes} {j : Nat} {f : Bytes → Bool} (h : j < P.length) : (P.take (j + 1)).any f = ((P.take j).any f || f P[j]) := by
  rw [List.take_succ_eq_append_getElem h, List.any_append]; simp
theorem vals_short {L : List (Bytes × Bytes)} (hF : Few L) (name : Bytes) : ∀ v ∈ allV L name, v.length ≤ 5000 := fun v hv => by
  obtain ⟨p, hp, rfl⟩ := allV_mem hv
  exact (hF.short p hp).2
theorem vals_few {L : List (Bytes × Bytes)} (hF : Few L) (name : Bytes) : (piecesOf (allV L name)).length ≤ 600000 := by
  have h1 := pieces_len _ (vals_short hF name)
  have h2 := allV_length L name
  have h3 := hF.len
  omega
set_option maxRecDepth 100000 in
set_option maxHeartbeats 16000000 in
theorem rlenient_any (L : List (Bytes × Bytes)) (m t : ByteArray) (A : Option Addr) (cap : Nat) (first : Bool) (w : World) (hF : Few L) (hR : Rd w 2 (.slice A L.length cap) L.length (prs L)) :
    Calls Tryd.prog 25 #[.agg #[.string m, .string t, .slice A L.length cap], .bool first] w fun e w' => e = .returned (pairV (lenient L first)) ∧ Below w.heap.size w w' := by
  obtain ⟨G, hG⟩ : ∃ G, w.heap.size = G := ⟨_, rfl⟩
  have hl : lenient L first = lenientOf (firstN (piecesOf (allV L cl))) ((piecesOf (allV L te)).any fun t => decide (Syn.lower (befT t) = ch)) first := by
    unfold lenient; rw [lenN_first, chk_pieces]
  have hP1 : ∀ w, Rd w 2 (.slice A L.length cap) L.length (prs L) → Calls Tryd.prog 31 #[.slice A L.length cap, .string ⟨#[99, 111, 110, 116, 101, 110, 116, 45, 108, 101, 110, 103, 116, 104]⟩] w fun e w' => ∃ o, e = .returned o ∧ Own w' w.heap.size 9 1 o (piecesOf (allV L cl)).length (strs (piecesOf (allV L cl))) ∧ Below w.heap.size w w' := fun w h => rpieces_any L cl _ w hF (by decide) h
  have hP2 : ∀ w, Rd w 2 (.slice A L.length cap) L.length (prs L) → Calls Tryd.prog 31 #[.slice A L.length cap, .string ⟨#[116, 114, 97, 110, 115, 102, 101, 114, 45, 101, 110, 99, 111, 100, 105, 110, 103]⟩] w fun e w' => ∃ o, e = .returned o ∧ Own w' w.heap.size 9 1 o (piecesOf (allV L te)).length (strs (piecesOf (allV L te))) ∧ Below w.heap.size w w' := fun w h => rpieces_any L te _ w hF (by decide) h
  have s1 := pieces_short (vals_short hF cl)
  have s2 := pieces_short (vals_short hF te)
  have n1 := vals_few hF cl
  have n2 := vals_few hF te
  rw [hl]
  generalize piecesOf (allV L cl) = P at *
  generalize piecesOf (allV L te) = Q at *
  clear hl hF
  replace hP1 := Lib.hid hP1
  replace hP2 := Lib.hid hP2
  replace s1 := Lib.hid s1
  replace s2 := Lib.hid s2
  replace hR := Lib.hid hR
  go_enter Tryd.func25, Tryd.ntmps25
  go_wp2_with fail
  have hX := (Blk.new w 24 #[.string m, .string t, .slice A L.length cap]).alloc (.cells #[.int .i64 0, .int .i64 0] 38)
  have hA := Blk.new (w.alloc (.cells #[.string m, .string t, .slice A L.length cap] 24)) 38 #[.int .i64 0, .int .i64 0]
  have hB0 := ((Below.refl w.heap.size w).alloc (Nat.le_refl _) (.cells #[.string m, .string t, .slice A L.length cap] 24)).alloc (by rw [alloc_size']; omega) (.cells #[.int .i64 0, .int .i64 0] 38)
  rw [alloc_size', hG] at hA
  rw [hG] at hX
  generalize (w.alloc (.cells #[.string m, .string t, .slice A L.length cap] 24)).alloc (.cells #[.int .i64 0, .int .i64 0] 38) = w2 at *
  have hR2 := hR.out.below hB0
  refine (hP1.out _ hR2).mono ?_
  rintro e w3 ⟨o, rfl, hv, hb3⟩
  have hK := hA.below hb3
  have hX3 := hX.below hb3
  have hB3 := Below.next hB0 hB0.size hb3
  have hR3 := Lib.hid (hR2.below hb3)
  obtain ⟨A2, cap2, rfl, -, -, r2⟩ : Rd w3 1 o P.length (strs P) := Rd.own hv
  have x2 : w3.cell? ⟨G, 2, none⟩ = some (.slice A L.length cap) := hX3.cell 2
  replace r2 := Lib.hid r2
  replace hK := Lib.hid hK
  replace hB3 := Lib.hid hB3
  clear hb3 hR2 hA hB0 hX hX3 hv
  go_wp2
  go_loop [5, 8] (fun l i => ∃ j : Nat, i = .int .i64 ((j : Int) - 1) ∧ j ≤ P.length ∧ l = .int .i64 (lenI (firstN (P.drop j)))) (fun _ i => ((intOf i) + 1).toNat)
  case atStart => exact ⟨P.length, rfl, Nat.le_refl _, by rw [List.drop_length]; rfl⟩
  case round =>
    obtain ⟨j, rfl, hj, rfl⟩ := hrel
    by_cases hj0 : 0 < j
    · obtain ⟨i, rfl⟩ : ∃ i, j = i + 1 := ⟨j - 1, by omega⟩
      rw [show (((i + 1 : Nat) : Int) - 1) = (i : Int) by omega]
      obtain ⟨b1, o1, rfl, _, x1⟩ := r2.out (by omega)
      have hi : i < P.length := by omega
      have d1 : w3.cell? ⟨b1, o1 + i, none⟩ = some (.string (str P[i])) := x1 i _ (strs_at hi)
      have hst := firstN_drop hi
      have hsz := s1.out P[i] (List.getElem_mem hi)
      have hN := Lib.hid (fun w => refnum_any (str P[i]) w (by rw [str_size]; unfold maxLen; omega))
      rw [bs_str] at hN
      clear x1
      generalize P[i] = x at *
      generalize firstN (P.drop (i + 1)) = fo at *
      by_cases h0 : (number x).2 = 0
      · rw [if_pos h0] at hst
        rw [show refNum x = ((number x).1 : Int) from if_pos h0] at hN
        generalize (number x).1 = n at *
        replace hst := Lib.hid hst
        replace h0 := Lib.hid h0
        go_wp2_with fail
        refine (hN.out _).mono ?_
        rintro e w4 ⟨rfl, rfl⟩
        go_wp2
        go_round
        case rel => exact ⟨i, by go_num, by omega, by rw [hst.out]; rfl⟩
        case measure => first | (simp [intOf]; done) | (simp [intOf]; omega)
      · rw [if_neg h0] at hst
        rw [show refNum x = -1 from if_neg h0] at hN
        replace hst := Lib.hid hst
        replace h0 := Lib.hid h0
        go_wp2_with fail
        refine (hN.out _).mono ?_
        rintro e w4 ⟨rfl, rfl⟩
        go_wp2
        go_round
        case rel => exact ⟨i, by go_num, by omega, by rw [hst.out]⟩
        case measure => first | (simp [intOf]; done) | (simp [intOf]; omega)
    · obtain rfl : j = 0 := by omega
      rw [List.drop_zero]
      obtain ⟨fo, hfo⟩ : ∃ fo, fo = firstN P := ⟨_, rfl⟩
      rw [← hfo]
      replace hfo := Lib.hid hfo
      clear r2 s1
      go_wp2_with fail
      refine (hP2.out _ hR3.out).mono ?_
      rintro e w4 ⟨o, rfl, hv, hb4⟩
      have hK4 := Lib.hid (hK.out.below hb4)
      have hB4 := Lib.hid (Below.next hB3.out hB3.out.size hb4)
      obtain ⟨A4, cap4, rfl, -, -, -⟩ : Rd w4 1 o Q.length (strs Q) := Rd.own hv
      replace hv := Lib.hid hv
      clear hb4 x2
      go_wp2
      go_loopw [6, 10] (fun c i wr => ∃ j : Nat, i = .int .i64 (j : Int) ∧ j ≤ Q.length ∧ c = .bool ((Q.take j).any fun t => decide (Syn.lower (befT t) = ch)) ∧ Hid (Below w4.heap.size w4 wr)) (fun _ i _ => Q.length - (intOf i).toNat)
      case atStart => exact ⟨0, rfl, by omega, rfl, Lib.hid (Below.refl _ _)⟩
      case round =>
        obtain ⟨j, rfl, hj, rfl, hB⟩ := hrel
        have hBw := hB.out.size
        by_cases hlt : j < Q.length
        · obtain ⟨A5, c5, e5, -, -, r5⟩ : Rd wr 1 _ Q.length (strs Q) := (Rd.own hv.out).below hB.out
          cases e5
          obtain ⟨b1, o1, rfl, _, x1⟩ := r5 (by omega)
          have d1 : wr.cell? ⟨b1, o1 + j, none⟩ = some (.string (str Q[j])) := x1 j _ (strs_at hlt)
          have hst := any_take (f := fun t => decide (Syn.lower (befT t) = ch)) hlt
          have hsz := s2.out Q[j] (List.getElem_mem hlt)
          clear x1 r5
          generalize Q[j] = x at *
          generalize hc : ((Q.take j).any fun t => decide (Syn.lower (befT t) = ch)) = c at *
          clear hc
          cases c
          · rw [Bool.false_or] at hst
            have hBf := Lib.hid (fun w => before_any (str x) w (by rw [str_size]; omega))
            rw [bs_str] at hBf
            have hbl : (befT x).length ≤ 5000 := by
              unfold befT
              split
              · exact hsz
              · exact Nat.le_trans (trim_le _) (Nat.le_trans (takeWhile_le _ _) hsz)
            generalize befT x = y at *
            have hLw := Lib.hid (fun w => rlower_any (str y) w (by rw [str_size]; omega))
            rw [bs_str] at hLw
            generalize Syn.lower y = z at *
            go_wp2_with fail
            refine (hBf.out _).mono ?_
            rintro e w5 ⟨rfl, hb5⟩
            have hB5 := Lib.hid (Below.next hB.out hBw hb5)
            clear hb5
            go_wp2_with fail
            refine (hLw.out _).mono ?_
            rintro e w6 ⟨rfl, hb6⟩
            have hB6 := Lib.hid (Below.next hB5.out hB5.out.size hb6)
            clear hb6 d1
            by_cases hz : z = ch
            · have hq : ((str z).toList == [99, 104, 117, 110, 107, 101, 100]) = true := by rw [str_toList, hz]; decide
              rw [decide_eq_true hz] at hst
              replace hz := Lib.hid hz
              replace hst := Lib.hid hst
              go_wp2
              go_roundw
              case rel => exact ⟨j + 1, by go_num, by omega, by rw [hst.out], hB6⟩
              case measure => first | (simp [intOf]; done) | (simp [intOf]; omega)
            · have hq : ((str z).toList == [99, 104, 117, 110, 107, 101, 100]) = false := by rw [str_toList, beq_eq_false_iff_ne]; exact hz
              rw [decide_eq_false hz] at hst
              replace hz := Lib.hid hz
              replace hst := Lib.hid hst
              go_wp2
              go_roundw
              case rel => exact ⟨j + 1, by go_num, by omega, by rw [hst.out], hB6⟩
              case measure => first | (simp [intOf]; done) | (simp [intOf]; omega)
          · rw [Bool.true_or] at hst
            replace hst := Lib.hid hst
            go_wp2
            go_roundw
            case rel => exact ⟨j + 1, by go_num, by omega, by rw [hst.out], hB⟩
            case measure => first | (simp [intOf]; done) | (simp [intOf]; omega)
        · obtain rfl : j = Q.length := by omega
          rw [List.take_length]
          obtain ⟨c, hc⟩ : ∃ c, c = (Q.any fun t => decide (Syn.lower (befT t) = ch)) := ⟨_, rfl⟩
          rw [← hc]
          replace hc := Lib.hid hc
          have hKr := hK4.out.below hB.out
          have c0 : wr.cell? ⟨G + 1, 0, none⟩ = some (.int .i64 0) := hKr.cell 0
          have c1 : wr.cell? ⟨G + 1, 1, none⟩ = some (.int .i64 0) := hKr.cell 1
          have g0 := hKr.frozen 0
          have g1 := hKr.frozen 1
          have hBz := Below.next hB4.out hB4.out.size hB.out
          have hGl : G + 1 < wr.heap.size := hKr.lt
          replace hKr := Lib.hid hKr
          replace hBz := Lib.hid hBz
          cases fo with
          | none =>
            rw [show lenI none = -1 from rfl]
            cases c <;> cases first
            all_goals
              go_wp2
              exact ret_one rfl rfl rfl (hKr.out.two _ _) Tryd.underlying38 rfl (by kernel_rfl) ⟨by rw [← hfo.out, ← hc.out]; rfl, (hBz.out.setCell (p := ⟨G + 1, 0, none⟩) (by show _ ≤ G + 1; omega) _).setCell (p := ⟨G + 1, 1, none⟩) (by show _ ≤ G + 1; omega) _⟩
          | some n =>
            rw [show lenI (some n) = (n : Int) from rfl]
            cases c <;> cases first
            all_goals
              go_wp2
              exact ret_one rfl rfl rfl (hKr.out.two _ _) Tryd.underlying38 rfl (by kernel_rfl) ⟨by rw [← hfo.out, ← hc.out]; rfl, (hBz.out.setCell (p := ⟨G + 1, 0, none⟩) (by show _ ≤ G + 1; omega) _).setCell (p := ⟨G + 1, 1, none⟩) (by show _ ≤ G + 1; omega) _⟩
end Go.Proofs.YtodgkppjabhhlaaDoor
