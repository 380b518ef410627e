/-
  The code's Lenient and Ambiguous.
-/
import Derived.Test.YtjffffpfejmoiaaGreatDoorFLenS
import Derived.Test.YtjffffpfejmoiaaGreatDoorGHo
import Derived.Test.YtjffffpfejmoiaaGreatDoorGFr
namespace Go.Proofs.YtjffffpfejmoiaaGreatDoor
open Go.RowKit Syn Fr

def pairV (p : Nat × Nat) : Value := .agg #[.int .i64 (p.1 : Int), .int .i64 (p.2 : Int)]
theorem any_take {P : List Bytes} {j : Nat} {f : Bytes → Bool} (h : j < P.length) : (P.take (j + 1)).any f = ((P.take j).any f || f P[j]) := by
  rw [List.take_succ_eq_append_getElem h, List.any_append]; simp
theorem vals_short {L : List (Bytes × Bytes)} (hF : Few L) (name : Bytes) : ∀ v ∈ allV L name, v.length ≤ 5000 := fun v hv => by
  obtain ⟨p, hp, rfl⟩ := allV_mem hv
  exact (hF.short p hp).2
theorem rd_new (w : World) (t : TypeId) (xs : List Value) (n : Nat) (h : xs.length = n) : Rd (w.alloc (.cells xs.toArray t)) 1 (.slice (some ⟨w.heap.size, 0, none⟩) n n) n xs := by
  refine ⟨_, _, rfl, Nat.le_refl _, by omega, fun _ => ⟨_, _, rfl, by rw [alloc_size']; omega, fun j u hu => ?_⟩⟩
  rw [Nat.zero_add, (Blk.new w t xs.toArray).cell j]
  simpa using hu
theorem split_rd (s : Bytes) (hs : s.length ≤ 100000) (w : World) :
    Calls Tryz.prog 49 #[.string (str s), .string ⟨#[44]⟩] w fun e w' => ∃ g, e = .returned (.slice (some ⟨g, 0, none⟩) (sp 44 s).length (sp 44 s).length) ∧ Rd w' 1 (.slice (some ⟨g, 0, none⟩) (sp 44 s).length (sp 44 s).length) (sp 44 s).length (strs (sp 44 s)) ∧ Below w.heap.size w w' := by
  refine (split_any (str s) 44 w (by rw [str_size]; omega)).mono ?_
  rintro e w' ⟨rfl, rfl⟩
  rw [bs_str, ← sp_length 44 s]
  exact ⟨_, rfl, rd_new w _ _ _ (by unfold strs; rw [List.length_map]), (Below.refl _ _).alloc (Nat.le_refl _) _⟩
theorem step_isSome (n : Nat) (x : Bytes) : stepN (some n) x = some n := rfl
set_option maxRecDepth 100000 in
set_option maxHeartbeats 32000000 in
theorem lenient_any (L : List (Bytes × Bytes)) (m t : ByteArray) (A : Option Addr) (cap : Nat) (first : Bool) (w : World) (hF : Few L) (hR : Rd w 2 (.slice A L.length cap) L.length (prs L)) :
    Calls Tryz.prog 29 #[.agg #[.string m, .string t, .slice A L.length cap], .bool first] w fun e w' => e = .returned (pairV (lenient L first)) ∧ Below w.heap.size w w' := by
  obtain ⟨G, hG⟩ : ∃ G, w.heap.size = G := ⟨_, rfl⟩
  have hP1 : ∀ w, Rd w 2 (.slice A L.length cap) L.length (prs L) → Calls Tryz.prog 41 #[.slice A L.length cap, .string ⟨#[99, 111, 110, 116, 101, 110, 116, 45, 108, 101, 110, 103, 116, 104]⟩] w fun e w' => ∃ o, e = .returned o ∧ Own w' w.heap.size 9 1 o (allV L cl).length (strs (allV L cl)) ∧ Below w.heap.size w w' := fun w h => all_anyF L cl _ w hF (by decide) h
  have hP2 : ∀ w, Rd w 2 (.slice A L.length cap) L.length (prs L) → Calls Tryz.prog 41 #[.slice A L.length cap, .string ⟨#[116, 114, 97, 110, 115, 102, 101, 114, 45, 101, 110, 99, 111, 100, 105, 110, 103]⟩] w fun e w' => ∃ o, e = .returned o ∧ Own w' w.heap.size 9 1 o (allV L te).length (strs (allV L te)) ∧ Below w.heap.size w w' := fun w h => all_anyF L te _ w hF (by decide) h
  have s1 := vals_short hF cl
  have s2 := vals_short hF te
  have n1 : (allV L cl).length ≤ 100 := Nat.le_trans (allV_length L cl) hF.len
  have n2 : (allV L te).length ≤ 100 := Nat.le_trans (allV_length L te) hF.len
  unfold lenient
  generalize allV L cl = P at *
  generalize allV L te = Q at *
  clear hF
  replace hP1 := Lib.hid hP1
  replace hP2 := Lib.hid hP2
  replace s1 := Lib.hid s1
  replace s2 := Lib.hid s2
  replace hR := Lib.hid hR
  go_enter Tryz.func29, Tryz.ntmps29
  go_wp2_with fail
  have hX := (Blk.new w 30 #[.string m, .string t, .slice A L.length cap]).alloc (.cells #[.int .i64 0, .int .i64 0] 69)
  have hA := Blk.new (w.alloc (.cells #[.string m, .string t, .slice A L.length cap] 30)) 69 #[.int .i64 0, .int .i64 0]
  have hB0 := ((Below.refl w.heap.size w).alloc (Nat.le_refl _) (.cells #[.string m, .string t, .slice A L.length cap] 30)).alloc (by rw [alloc_size']; omega) (.cells #[.int .i64 0, .int .i64 0] 69)
  rw [alloc_size', hG] at hA
  rw [hG] at hX
  generalize (w.alloc (.cells #[.string m, .string t, .slice A L.length cap] 30)).alloc (.cells #[.int .i64 0, .int .i64 0] 69) = w2 at *
  have hR2 := hR.out.below hB0
  refine (hP1.out _ hR2).mono ?_
  rintro e w3 ⟨o, rfl, hv, hb3⟩
  have hK := hA.below hb3
  have hX3 := hX.below hb3
  have hB3 := Below.next hB0 hB0.size hb3
  have hR3 := Lib.hid (hR2.below hb3)
  have hv3 := Rd.own hv
  obtain ⟨A2, cap2, rfl, -, -, -⟩ := id hv3
  replace hv3 := Lib.hid hv3
  replace hX3 := Lib.hid hX3
  replace hK := Lib.hid hK
  replace hB3 := Lib.hid hB3
  clear hb3 hR2 hA hB0 hX hv
  go_wp2
  go_loopw [5, 6, 22] (fun l f i wr => ∃ (k : Nat) (o : Option Nat), i = .int .i64 (k : Int) ∧ k ≤ P.length ∧ l = .int .i64 ((o.getD 0 : Nat) : Int) ∧ f = .bool o.isSome ∧ Hid (o = (P.take k).foldl (fun o v => (sp 44 v).foldl stepN o) none) ∧ Hid (Below w3.heap.size w3 wr)) (fun _ _ i _ => P.length - (intOf i).toNat)
  case atStart => exact ⟨0, none, rfl, by omega, rfl, rfl, Lib.hid rfl, Lib.hid (Below.refl _ _)⟩
  case round =>
    obtain ⟨k, o, rfl, hk, rfl, rfl, ho, hB⟩ := hrel
    have hBw := hB.out.size
    by_cases hlt : k < P.length
    · obtain ⟨A', c', e', -, -, r'⟩ := hv3.out.below hB.out
      cases e'
      obtain ⟨b1, o1, rfl, _, x1⟩ := r' (by omega)
      have d1 : wr.cell? ⟨b1, o1 + k, none⟩ = some (.string (str P[k])) := x1 k _ (strs_at hlt)
      have hsz := s1.out P[k] (List.getElem_mem hlt)
      have hst : (P.take (k + 1)).foldl (fun o v => (sp 44 v).foldl stepN o) none = (sp 44 P[k]).foldl stepN o := by
        rw [List.take_succ_eq_append_getElem hlt, List.foldl_append, ← ho.out]; rfl
      clear x1 r' ho
      generalize P[k] = v at *
      have hS := Lib.hid (fun w => split_rd v (by omega) w)
      have hSm := Lib.hid (fun x hx => Nat.le_trans (sp_most 44 v x hx) hsz)
      have hSl : (sp 44 v).length ≤ 6000 := by
        rw [sp_length]
        have : v.count 44 ≤ v.length := List.count_le_length
        omega
      generalize sp 44 v = S at *
      replace hst := Lib.hid hst
      go_wp2_with fail
      refine (hS.out _).mono ?_
      rintro e w4 ⟨g, rfl, hr4, hb4⟩
      have hB4 := Lib.hid (hB.out.trans (hb4.mono hBw))
      replace hr4 := Lib.hid hr4
      clear hb4 d1 hS hB hBw
      go_wp2
      go_loopw [5, 6, 29] (fun l f i wr => ∃ (j : Nat) (o' : Option Nat), i = .int .i64 (j : Int) ∧ j ≤ S.length ∧ l = .int .i64 ((o'.getD 0 : Nat) : Int) ∧ f = .bool o'.isSome ∧ Hid (o' = (S.take j).foldl stepN o) ∧ Hid (Below w4.heap.size w4 wr)) (fun _ _ i _ => S.length - (intOf i).toNat)
      case atStart => exact ⟨0, o, rfl, by omega, rfl, rfl, Lib.hid rfl, Lib.hid (Below.refl _ _)⟩
      case round =>
        obtain ⟨j, o', rfl, hj, rfl, rfl, ho, hB⟩ := hrel
        have hBw := hB.out.size
        by_cases hjt : j < S.length
        · obtain ⟨A', c', e', -, -, r'⟩ := hr4.out.below hB.out
          cases e'
          obtain ⟨b2, o2, e2, _, x1⟩ := r' (by omega)
          cases e2
          have d1 : wr.cell? ⟨g, j, none⟩ = some (.string (str S[j])) := by have := x1 j _ (strs_at hjt); rwa [Nat.zero_add] at this
          have hsx := hSm.out S[j] (List.getElem_mem hjt)
          have hst2 : (S.take (j + 1)).foldl stepN o = pick o' (trim S[j]) := by
            rw [List.take_succ_eq_append_getElem hjt, List.foldl_append, ← ho.out]; rfl
          clear x1 r' ho
          generalize S[j] = x at *
          have hT := Lib.hid (fun w => frtrim_any (str x) w (by rw [str_size]; omega))
          rw [bs_str] at hT
          have hyl := Nat.le_trans (trim_le x) hsx
          generalize trim x = y at *
          have hN := Lib.hid (fun w => frnumber_any (str y) w (by rw [str_size]; unfold maxLen; omega))
          rw [bs_str] at hN
          replace hyl := Lib.hid hyl
          replace hsx := Lib.hid hsx
          go_wp2_with fail
          refine (hT.out _).mono ?_
          rintro e w5 ⟨rfl, hb5⟩
          have hB5 := Lib.hid (Below.next hB.out hBw hb5)
          clear hb5 d1
          by_cases h0 : (number y).2 = 0
          · rw [decide_eq_true h0] at hN
            have hp : pick none y = some (number y).1 := if_pos h0
            generalize (number y).1 = n at *
            replace h0 := Lib.hid h0
            cases o' with
            | none =>
              rw [hp] at hst2
              replace hst2 := Lib.hid hst2
              replace hp := Lib.hid hp
              rw [show ((none : Option Nat).getD 0) = 0 from rfl, show (none : Option Nat).isSome = false from rfl]
              go_wp2_with fail
              refine (hN.out _).mono ?_
              rintro e w6 ⟨rfl, nd, rfl⟩
              have hB6 := Lib.hid (below_drewN hB5.out nd)
              go_wp2
              go_roundw
              case rel => exact ⟨j + 1, some n, by go_num, by omega, rfl, rfl, Lib.hid hst2.out.symm, hB6⟩
              case measure => simp [intOf]; omega
            | some n0 =>
              replace hst2 := Lib.hid (show _ = some n0 from hst2)
              replace hp := Lib.hid hp
              rw [show ((some n0 : Option Nat).getD 0) = n0 from rfl, show (some n0 : Option Nat).isSome = true from rfl]
              go_wp2_with fail
              refine (hN.out _).mono ?_
              rintro e w6 ⟨rfl, nd, rfl⟩
              have hB6 := Lib.hid (below_drewN hB5.out nd)
              go_wp2
              go_roundw
              case rel => exact ⟨j + 1, some n0, by go_num, by omega, rfl, rfl, Lib.hid hst2.out.symm, hB6⟩
              case measure => simp [intOf]; omega
          · rw [decide_eq_false h0] at hN
            have hp : pick o' y = o' := by
              cases o' with
              | none => exact if_neg h0
              | some _ => rfl
            rw [hp] at hst2
            replace hst2 := Lib.hid hst2
            replace hp := Lib.hid hp
            replace h0 := Lib.hid h0
            go_wp2_with fail
            refine (hN.out _).mono ?_
            rintro e w6 ⟨rfl, nd, rfl⟩
            have hB6 := Lib.hid (below_drewN hB5.out nd)
            go_wp2
            go_roundw
            case rel => exact ⟨j + 1, o', by go_num, by omega, rfl, rfl, Lib.hid hst2.out.symm, hB6⟩
            case measure => simp [intOf]; omega
        · obtain rfl : j = S.length := by omega
          have hfin := Lib.hid (show o' = (P.take (k + 1)).foldl (fun o v => (sp 44 v).foldl stepN o) none by rw [hst.out, ho.out, List.take_length])
          have hBz := Lib.hid (hB4.out.trans (hB.out.mono hB4.out.size))
          clear ho
          go_wp2
          go_roundw
          case rel => exact ⟨k + 1, o', by go_num, by omega, rfl, rfl, hfin, hBz⟩
          case measure => simp [intOf]; omega
    · obtain rfl : k = P.length := by omega
      have hfo := Lib.hid (show o = lenN P by rw [ho.out, List.take_length]; rfl)
      have hKr := hK.out.below hB.out
      have hXr := hX3.out.below hB.out
      have hRr := Lib.hid (hR3.out.below hB.out)
      have x2 : wr.cell? ⟨G, 2, none⟩ = some (.slice A L.length cap) := hXr.cell 2
      have hB5 := Lib.hid (Below.next hB3.out hB3.out.size hB.out)
      replace hKr := Lib.hid hKr
      clear ho hXr hB hBw hv3 s1 hX3 hR3 hK
      go_wp2_with fail
      refine (hP2.out _ hRr.out).mono ?_
      rintro e w4 ⟨ov, rfl, hv, hb4⟩
      have hK4 := Lib.hid (hKr.out.below hb4)
      have hB4 := Lib.hid (Below.next hB5.out hB5.out.size hb4)
      have hv4 := Rd.own hv
      obtain ⟨A4, cap4, rfl, -, -, -⟩ := id hv4
      replace hv4 := Lib.hid hv4
      clear hb4 x2 hv
      go_wp2
      go_loopw [13, 51] (fun c i wr => ∃ (k : Nat), i = .int .i64 (k : Int) ∧ k ≤ Q.length ∧ c = .bool ((Q.take k).any fun v => (sp 44 v).any isCh) ∧ Hid (Below w4.heap.size w4 wr)) (fun _ i _ => Q.length - (intOf i).toNat)
      case atStart => exact ⟨0, rfl, by omega, rfl, Lib.hid (Below.refl _ _)⟩
      case round =>
        obtain ⟨k, rfl, hk, rfl, hB⟩ := hrel
        have hBw := hB.out.size
        by_cases hlt : k < Q.length
        · obtain ⟨A', c', e', -, -, r'⟩ := hv4.out.below hB.out
          cases e'
          obtain ⟨b1, o1, rfl, _, x1⟩ := r' (by omega)
          have d1 : wr.cell? ⟨b1, o1 + k, none⟩ = some (.string (str Q[k])) := x1 k _ (strs_at hlt)
          have hsz := s2.out Q[k] (List.getElem_mem hlt)
          have hst := any_take (f := fun v => (sp 44 v).any isCh) hlt
          clear x1 r'
          generalize hc0 : ((Q.take k).any fun v => (sp 44 v).any isCh) = c0 at *
          clear hc0
          generalize Q[k] = v at *
          have hS := Lib.hid (fun w => split_rd v (by omega) w)
          have hSm := Lib.hid (fun x hx => Nat.le_trans (sp_most 44 v x hx) hsz)
          have hSl : (sp 44 v).length ≤ 6000 := by
            rw [sp_length]
            have : v.count 44 ≤ v.length := List.count_le_length
            omega
          generalize sp 44 v = S at *
          replace hst := Lib.hid hst
          go_wp2_with fail
          refine (hS.out _).mono ?_
          rintro e w5 ⟨g, rfl, hr4, hb4⟩
          have hB6 := Lib.hid (hB.out.trans (hb4.mono hBw))
          replace hr4 := Lib.hid hr4
          clear hb4 d1 hS hB hBw
          go_wp2
          go_loopw [13, 58] (fun c i wr => ∃ (j : Nat), i = .int .i64 (j : Int) ∧ j ≤ S.length ∧ c = .bool (c0 || (S.take j).any isCh) ∧ Hid (Below w5.heap.size w5 wr)) (fun _ i _ => S.length - (intOf i).toNat)
          case atStart => exact ⟨0, rfl, by omega, by rw [List.take_zero]; simp, Lib.hid (Below.refl _ _)⟩
          case round =>
            obtain ⟨j, rfl, hj, rfl, hB⟩ := hrel
            have hBw := hB.out.size
            by_cases hjt : j < S.length
            · obtain ⟨A', c', e', -, -, r'⟩ := hr4.out.below hB.out
              cases e'
              obtain ⟨b2, o2, e2, _, x1⟩ := r' (by omega)
              cases e2
              have d1 : wr.cell? ⟨g, j, none⟩ = some (.string (str S[j])) := by have := x1 j _ (strs_at hjt); rwa [Nat.zero_add] at this
              have hsx := hSm.out S[j] (List.getElem_mem hjt)
              have hst2 : (c0 || (S.take (j + 1)).any isCh) = ((c0 || (S.take j).any isCh) || isCh S[j]) := by rw [any_take hjt, Bool.or_assoc]
              clear x1 r'
              generalize S[j] = x at *
              generalize hc1 : (c0 || (S.take j).any isCh) = c1 at *
              clear hc1
              have hC : ∀ w, Calls Tryz.prog 52 #[.string (str x), .string ⟨#[59]⟩] w fun e w' => e = .returned (.tuple #[.string (str (x.takeWhile (· != 59))), .string (str ((x.dropWhile (· != 59)).drop 1)), .bool (!(x.dropWhile (· != 59)).isEmpty)]) ∧ ∃ n, w' = w.drewN n := fun w => by
                have := cut_any (str x) 59 w (by rw [str_size]; unfold maxLen; omega)
                rw [bs_str] at this
                exact this
              generalize (x.dropWhile (· != 59)).drop 1 = q1 at *
              generalize (!(x.dropWhile (· != 59)).isEmpty) = q2 at *
              have hpl := Nat.le_trans (takeWhile_le (· != 59) x) hsx
              have hch : isCh x = decide (Syn.lower (trim (x.takeWhile (· != 59))) = ch) := rfl
              rw [hch] at hst2
              clear hch
              generalize x.takeWhile (· != 59) = p at *
              have hT := Lib.hid (fun w => frtrim_any (str p) w (by rw [str_size]; omega))
              rw [bs_str] at hT
              have hyl := Nat.le_trans (trim_le p) hpl
              generalize trim p = y at *
              have hLw := Lib.hid (fun w => frlower_any (str y) w (by rw [str_size]; omega))
              rw [bs_str] at hLw
              generalize Syn.lower y = z at *
              replace hC := Lib.hid hC
              replace hpl := Lib.hid hpl
              replace hyl := Lib.hid hyl
              replace hsx := Lib.hid hsx
              go_wp2_with fail
              refine (hC.out _).mono ?_
              rintro e w6 ⟨rfl, nd, rfl⟩
              have hB7 := Lib.hid (below_drewN hB.out nd)
              have hB7s := hB7.out.size
              clear d1
              cases c1
              · rw [Bool.false_or] at hst2
                go_wp2_with fail
                refine (hT.out _).mono ?_
                rintro e w7 ⟨rfl, hb7⟩
                have hB8 := Lib.hid (Below.next hB7.out hB7s hb7)
                clear hb7
                go_wp2_with fail
                refine (hLw.out _).mono ?_
                rintro e w8 ⟨rfl, hb8⟩
                have hB9 := Lib.hid (Below.next hB8.out hB8.out.size hb8)
                clear hb8
                by_cases hz : z = ch
                · have hq : ((str z).toList == [99, 104, 117, 110, 107, 101, 100]) = true := by rw [str_toList, hz]; decide
                  rw [decide_eq_true hz] at hst2
                  replace hz := Lib.hid hz
                  replace hst2 := Lib.hid hst2
                  go_wp2
                  go_roundw
                  case rel => exact ⟨j + 1, by go_num, by omega, by rw [hst2.out], hB9⟩
                  case measure => simp [intOf]; omega
                · have hq : ((str z).toList == [99, 104, 117, 110, 107, 101, 100]) = false := by rw [str_toList, beq_eq_false_iff_ne]; exact hz
                  rw [decide_eq_false hz] at hst2
                  replace hz := Lib.hid hz
                  replace hst2 := Lib.hid hst2
                  go_wp2
                  go_roundw
                  case rel => exact ⟨j + 1, by go_num, by omega, by rw [hst2.out], hB9⟩
                  case measure => simp [intOf]; omega
              · rw [Bool.true_or] at hst2
                replace hst2 := Lib.hid hst2
                go_wp2
                go_roundw
                case rel => exact ⟨j + 1, by go_num, by omega, by rw [hst2.out], hB7⟩
                case measure => simp [intOf]; omega
            · obtain rfl : j = S.length := by omega
              have hfin := Lib.hid (show (c0 || (S.take S.length).any isCh) = ((Q.take (k + 1)).any fun v => (sp 44 v).any isCh) by rw [hst.out, List.take_length])
              have hBz := Lib.hid (hB6.out.trans (hB.out.mono hB6.out.size))
              generalize hc1 : (c0 || (S.take S.length).any isCh) = c1 at *
              clear hc1
              go_wp2
              go_roundw
              case rel => exact ⟨k + 1, by go_num, by omega, by rw [hfin.out], hBz⟩
              case measure => simp [intOf]; omega
        · obtain rfl : k = Q.length := by omega
          rw [List.take_length]
          obtain ⟨c, hc⟩ : ∃ c, c = (Q.any fun v => (sp 44 v).any isCh) := ⟨_, rfl⟩
          rw [← hc]
          replace hc := Lib.hid (show c = chk Q from hc)
          have hKz := hK4.out.below hB.out
          have c0 : wr.cell? ⟨G + 1, 0, none⟩ = some (.int .i64 0) := hKz.cell 0
          have c1 : wr.cell? ⟨G + 1, 1, none⟩ = some (.int .i64 0) := hKz.cell 1
          have g0 := hKz.frozen 0
          have g1 := hKz.frozen 1
          have hBz := Below.next hB4.out hB4.out.size hB.out
          have hGl : G + 1 < wr.heap.size := hKz.lt
          replace hKz := Lib.hid hKz
          replace hBz := Lib.hid hBz
          cases o with
          | none =>
            rw [show ((none : Option Nat).getD 0) = 0 from rfl, show (none : Option Nat).isSome = false from rfl]
            cases c <;> cases first
            all_goals
              go_wp2
              exact ret_one rfl rfl rfl (hKz.out.two _ _) Tryz.underlying69 rfl (by kernel_rfl) ⟨by rw [← hfo.out, ← hc.out]; rfl, (hBz.out.setCell (p := ⟨G + 1, 0, none⟩) (by show _ ≤ G + 1; omega) _).setCell (p := ⟨G + 1, 1, none⟩) (by show _ ≤ G + 1; omega) _⟩
          | some n =>
            rw [show ((some n : Option Nat).getD 0) = n from rfl, show (some n : Option Nat).isSome = true from rfl]
            cases c <;> cases first
            all_goals
              go_wp2
              exact ret_one rfl rfl rfl (hKz.out.two _ _) Tryz.underlying69 rfl (by kernel_rfl) ⟨by rw [← hfo.out, ← hc.out]; rfl, (hBz.out.setCell (p := ⟨G + 1, 0, none⟩) (by show _ ≤ G + 1; omega) _).setCell (p := ⟨G + 1, 1, none⟩) (by show _ ≤ G + 1; omega) _⟩
end Go.Proofs.YtjffffpfejmoiaaGreatDoor
