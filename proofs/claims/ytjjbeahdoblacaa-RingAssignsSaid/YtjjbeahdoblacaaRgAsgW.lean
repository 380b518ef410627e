/-
  The walk of RingAssigns.
-/
import Derived.Test.YtjjbeahdoblacaaRgMadeW
import Derived.Test.YtjjbeahdoblacaaRgAwake
import Derived.Test.YtjjbeahdoblacaaRgMap
import Derived.Test.YtjjbeahdoblacaaRgNil
import Derived.Test.YtjjbeahdoblacaaRgTwo
import Derived.IntWalk
import Derived.Carry
import Derived.Deep.CutRange
namespace Go.Proofs.Ytjjbeahdoblacaa
open Go.Shelf Go.RowKit Go.Lib Go.Sort Rg
def u8z (zs : List Int) : List Value := zs.map fun z => .int .u8 z
theorem u8z_at {zs : List Int} {k : Nat} (h : k < zs.length) : (u8z zs)[k]? = some (.int .u8 zs[k]) := by simp [u8z, h]
namespace Rg
def kys : List Nm := [[97], [98], [107, 101, 121], []]
theorem kys_len {k : Nat} (h : k < kys.length) : kys[k].length ≤ 3 := by
  have : ∀ x ∈ kys, x.length ≤ 3 := by decide
  exact this _ (List.getElem_mem h)
theorem find_keep {O : List Nm} {p : Nm → Bool} {k : Nat} {x : Nm} (h : k < O.length) (h1 : (O.take k).find? p = some x) : (O.take (k + 1)).find? p = some x := by
  rw [List.take_succ_eq_append_getElem h, List.find?_append, h1]; rfl
theorem find_new {O : List Nm} {p : Nm → Bool} {k : Nat} (h : k < O.length) (h1 : (O.take k).find? p = none) : (O.take (k + 1)).find? p = if p O[k] = true then some O[k] else none := by
  rw [List.take_succ_eq_append_getElem h, List.find?_append, h1, List.find?_singleton]; rfl
end Rg
set_option maxRecDepth 100000 in
set_option maxHeartbeats 16000000 in
theorem assigns_walk (w : World) (v : Value) (l : List (Nat × Nat)) (kv : Value) (zs : List Int) (most : Int) (hm : -128 ≤ most ∧ most ≤ 127) (hb : ∀ x ∈ l, x.1 < 256 ∧ x.2 < 256) (hR : Rd w 2 v l.length (pls l)) (hlm : l.length ≤ maxLen) (hK : Rd w 1 kv zs.length (u8z zs)) (hkm : zs.length ≤ maxLen) (hz : ∀ z ∈ zs, 0 ≤ z ∧ z ≤ 255) :
    Calls Try.prog 6 #[v, kv, .int .i8 most] w fun e w' => e = .returned (.bool true) ∧ Below w.heap.size w w' := by
  unfold maxLen at hlm hkm
  have hAw := Lib.hid (fun w => awake_any w)
  obtain ⟨A, cap, rfl, hcap, -, -⟩ := id hR
  obtain ⟨AK, capK, rfl, hcapK, -, -⟩ := id hK
  by_cases hl : l.length ≤ 20 ∧ zs.length ≤ 20
  · obtain ⟨hl, hk⟩ := hl
    have hkn : ¬ 20 < zs.length := by omega
    have hln : ¬ 20 < l.length := by omega
    have hgd := mkL_good l
    have hll := mkL_len l
    have hn5 := Lib.hid (fun (y : Nd) (hy : y ∈ mkL l) => (show y.1.length = 5 by obtain ⟨t, e⟩ := mkL_nm hy; rw [e]; rfl))
    have hmd := fun w' (hb' : Below w.heap.size w w') => made_any w' (.slice A l.length cap) l hl hb (hR.below hb')
    have Hmd := Lib.hid hmd
    have HK := Lib.hid hK
    have Hz := Lib.hid hz
    clear hmd hR hb hK hz
    generalize mkL l = L at *
    have Hgd := Lib.hid hgd
    clear hgd
    have hmm := @run_makeMap Try.prog
    go_enter Try.func6, Try.ntmps6
    go_wp2_with fail
    refine (hAw.out _).mono ?_
    rintro e w1 ⟨rfl, hb1⟩
    have hmd1 := Hmd.out _ hb1
    have hB1 := Lib.hid hb1
    clear hb1
    go_wp2_with fail
    refine hmd1.mono ?_
    rintro e w2 ⟨loc, lv, v1, v2, rfl, hM⟩
    have hB2 := Lib.hid (Below.next hB1.out hB1.out.size hM.old)
    have HM := Lib.hid hM
    obtain ⟨AL, cL, rfl, hcL, -, -⟩ := Rd.own hM.list
    clear hmd1 Hmd hM
    have h0 : OwnsM (w2.alloc (.map #[] 0)) w2.heap.size 0 (.map []) := World.ownsMap_made w2 _ _ _
    obtain ⟨w3, hrun, hD3, hk3⟩ := upd_at h0 [115, 116, 114, 97, 110, 103, 101, 114] (by decide) (by decide) 1 (by decide)
    have hrun' : (Instr.mapUpdate 50 (.map (some w2.heap.size)) (.string ⟨#[115, 116, 114, 97, 110, 103, 101, 114]⟩) (.int .i64 1)).run Try.prog (w2.alloc (.map #[] 0)) = .ok () w3 := hrun
    have hB3 := Lib.hid (show Below w2.heap.size w2 w3 from ((Below.refl w2.heap.size w2).alloc (Nat.le_refl _) _).trans (hk3.toBelow (by simp) (fun k e => by omega)))
    have HD3 := Lib.hid hD3
    clear hD3 hk3 h0 hrun
    have HB2 := Lib.hid (fun W (h : Below w2.heap.size w2 W) => (show Below w.heap.size w W from Below.next hB2.out hB2.out.size h))
    have HMb := Lib.hid (fun W (h : Below w2.heap.size w2 W) => HM.out.below h)
    have hzz : w.heap.size ≤ w2.heap.size := hB2.out.size
    clear HM hB2
    generalize hBm : w2.heap.size = Bm at *
    go_wp2_with fail
    have HBm := Lib.hid hBm
    clear hrun' hmm hBm
    go_loopw [46] (fun i wr => ∃ k : Nat, i = .int .i64 (k : Int) ∧ k ≤ zs.length ∧ Hid (Below Bm w2 wr) ∧ Hid (∃ D, OwnsM wr Bm (k + 1) D)) (fun i _ => zs.length - (intOf i).toNat)
    case atStart => exact ⟨0, rfl, by omega, hB3.out, HD3.out⟩
    case round =>
      clear hB3 HD3
      obtain ⟨k, rfl, hk2, hB4, hD⟩ := hrel
      obtain ⟨wo, rfl⟩ : ∃ wo, wo = wr := ⟨_, rfl⟩
      by_cases hlt : k < zs.length
      · obtain ⟨Ax, cx, he, -, -, hx⟩ := HK.out.below (HB2.out _ hB4.out)
        cases he
        obtain ⟨b1, of1, rfl, _, hx1⟩ := hx (by omega)
        have d1 : wo.cell? ⟨b1, of1 + k, none⟩ = some (.int .u8 zs[k]) := hx1 k _ (u8z_at hlt)
        have hzk := Hz.out _ (List.getElem_mem hlt)
        generalize zs[k] = z at *
        have k1 : (0 : Int) ≤ (k : Int) := by omega
        have k2 : (k : Int) < (zs.length : Int) := by omega
        have hz3 : Bm ≤ wo.heap.size := by rw [← HBm.out]; exact hB4.out.size
        clear hx hx1
        by_cases hkL : k < L.length
        · have k3 : (k : Int) < (L.length : Int) := by omega
          by_cases hz2 : z < 200
          · have hMr := (HMb.out _ hB4.out).list
            obtain ⟨g6, c6, he⟩ := own_some hMr (by omega)
            cases he
            have d3 : wo.cell? ⟨g6, k * 2, none⟩ = some (.string (str L[k].1)) := own_at hMr (two_at0 _ _ hkL)
            have h5 := hn5.out _ (List.getElem_mem hkL)
            obtain ⟨D, hD⟩ := hD.out
            have wa : IntKind.u8.wrap (z.tmod 8) = z % 8 := by rw [Int.tmod_eq_emod_of_nonneg (by omega)]; simp [IntKind.wrap, IntKind.bits, IntKind.signed]; omega
            have wb : IntKind.i64.wrap (z % 8) = z % 8 := IntWalk.i64_in _ (by omega)
            have wc : IntKind.i64.wrap (z.tmod 8) = z % 8 := by rw [Int.tmod_eq_emod_of_nonneg (by omega)]; exact wb
            have wz : (Lit.int .i64 (z % 8)).wf = true := by
              unfold Lit.wf
              rw [Bool.and_eq_true, decide_eq_true_eq, decide_eq_true_eq]
              exact ⟨by show (-9223372036854775808 : Int) ≤ _; omega, by show _ ≤ (9223372036854775807 : Int); omega⟩
            obtain ⟨w5, hrun, hD5, hk5⟩ := upd_at hD L[k].1 (by rw [h5]; decide) (by unfold maxLen; omega) (z % 8) wz
            have hB5 := Lib.hid (hB4.out.trans (hk5.toBelow hz3 (fun k e => by omega)))
            have HD5 := Lib.hid hD5
            generalize L[k].1 = x at *
            clear hMr hD5 hk5 hD h5 wz
            go_wp2_with fail
            go_roundw
            case rel => exact ⟨k + 1, by go_num, by omega, hB5.out, HD5.out⟩
            case measure => simp [intOf]; omega
          · go_wp2_with fail
            go_roundw
            case rel => exact ⟨k + 1, by go_num, by omega, hB4.out, Lib.hid (by obtain ⟨D, h⟩ := hD.out; exact ⟨D, h.mono (by omega)⟩)⟩
            case measure => simp [intOf]; omega
        · have k3 : ¬ (k : Int) < (L.length : Int) := by omega
          go_wp2_with fail
          go_roundw
          case rel => exact ⟨k + 1, by go_num, by omega, hB4.out, Lib.hid (by obtain ⟨D, h⟩ := hD.out; exact ⟨D, h.mono (by omega)⟩)⟩
          case measure => simp [intOf]; omega
      · obtain ⟨D, hD⟩ := hD.out
        have HD := Lib.hid hD
        clear hD hk2
        have hkB := Lib.hid (show Below Bm w2 (wo.alloc (.cells #[.string ⟨#[97]⟩, .string ⟨#[98]⟩, .string ⟨#[107, 101, 121]⟩, .string ⟨#[]⟩] 9)) from hB4.out.alloc (by rw [← HBm.out]; exact hB4.out.size) _)
        have hkK := blk_new wo 9 #[.string ⟨#[97]⟩, .string ⟨#[98]⟩, .string ⟨#[107, 101, 121]⟩, .string ⟨#[]⟩]
        have hDk := Lib.hid (HD.out.alloc (.cells #[.string ⟨#[97]⟩, .string ⟨#[98]⟩, .string ⟨#[107, 101, 121]⟩, .string ⟨#[]⟩] 9))
        have hKr := Lib.hid (fun k (hk : k < kys.length) (W : World) (hb : Below (wo.alloc (.cells #[.string ⟨#[97]⟩, .string ⟨#[98]⟩, .string ⟨#[107, 101, 121]⟩, .string ⟨#[]⟩] 9)).heap.size (wo.alloc (.cells #[.string ⟨#[97]⟩, .string ⟨#[98]⟩, .string ⟨#[107, 101, 121]⟩, .string ⟨#[]⟩] 9)) W) => (show W.cell? ⟨wo.heap.size, k, none⟩ = some (.string (str kys[k])) from by
          rw [(hkK.below hb).cell]
          match k, hk with
          | 0, _ => rfl
          | 1, _ => rfl
          | 2, _ => rfl
          | 3, _ => rfl))
        clear hkK hB4 HD
        go_wp2_with fail
        clear hlt
        generalize wo.alloc (.cells #[.string ⟨#[97]⟩, .string ⟨#[98]⟩, .string ⟨#[107, 101, 121]⟩, .string ⟨#[]⟩] 9) = w6 at *
        generalize wo.heap.size = Kb at *
        go_loopw [71] (fun i wr => ∃ k : Nat, i = .int .i64 (k : Int) ∧ k ≤ 4 ∧ Hid (Below w6.heap.size w6 wr)) (fun i _ => 4 - (intOf i).toNat)
        case atStart => exact ⟨0, rfl, by omega, Below.refl _ _⟩
        case round =>
          obtain ⟨t, rfl, ht, hB7⟩ := hrel
          obtain ⟨wq, rfl⟩ : ∃ wq, wq = wr := ⟨_, rfl⟩
          by_cases hlt : t < 4
          · have d1 := hKr.out t hlt wq hB7.out
            have hky := kys_len hlt
            generalize kys[t] = key at *
            have t1 : (0 : Int) ≤ (t : Int) := by omega
            have t2 : (t : Int) < 4 := by omega
            have hBq := Lib.hid (hkB.out.trans (hB7.out.mono (by have := hkB.out.size; have := HBm.out; omega)))
            have hMq := HMb.out _ hBq.out
            have hon := hMq.owners Hgd.out (by omega) key (by omega) 100 (by omega)
            rw [List.take_of_length_le (by rw [Hgd.out.own_len]; omega), Hgd.out.own_len] at hon
            have hD6 := Lib.hid (OwnsM.below hDk.out hB7.out)
            have hO5 := Lib.hid (fun x (hx : x ∈ own (ptsOf L) (Sk.hash 255 key)) => (show x.length = 5 from by
              obtain ⟨y, hy, e⟩ := List.mem_map.1 (Hgd.out.own_mem.1 hx)
              rw [← e]; exact hn5.out y hy))
            have hol := Lib.hid (Hgd.out.own_len (Sk.hash 255 key))
            obtain ⟨c0, hc0⟩ : ∃ c0 : Int, c0 = if L.length = 0 then 3 else 10 := ⟨_, rfl⟩
            obtain ⟨cE, hcE⟩ : ∃ cE : Int, cE = if L.length = 0 then 3 else asgE (asg (own (ptsOf L) (Sk.hash 255 key)) (ldOf D) most) := ⟨_, rfl⟩
            have HA := Lib.hid (fun W (hb : Below wq.heap.size wq W) => (show Calls Try.prog 21 #[.pointer (some ⟨loc, 0, none⟩), .string (str key), .map (some Bm), .int .i64 most] W fun e w' => e = .returned (.tuple #[.string (str (asgS (asg (own (ptsOf L) (Sk.hash 255 key)) (ldOf D) most))), errV cE]) ∧ Below W.heap.size W w' from by
              have hrW := (hMq.below hb).ring
              by_cases hL0 : L.length = 0
              · obtain rfl : L = [] := List.eq_nil_of_length_eq_zero hL0
                rw [hcE, if_pos hL0]
                have hoe : own (ptsOf []) (Sk.hash 255 key) = [] := List.eq_nil_of_length_eq_zero hol.out
                rw [hoe]
                exact assign_empty W _ _ _ _ _ (str key) (some Bm) most hrW
              · rw [hcE, if_neg hL0]
                exact assign_any W _ loc Bm _ v1 v2 L D key most hrW Hgd.out (by omega) (by omega) (by omega) (fun y hy => by rw [hn5.out y hy]; decide) (OwnsM.below hD6.out hb)))
            have hcS : Hid ((if (asg (own (ptsOf L) (Sk.hash 255 key)) (ldOf D) most).isSome = true then (0 : Int) else c0) = cE) := by
              show _ = _
              rw [hcE, hc0]
              by_cases hL0 : L.length = 0
              · have hoe : own (ptsOf L) (Sk.hash 255 key) = [] := List.eq_nil_of_length_eq_zero (by rw [hol.out]; exact hL0)
                rw [if_pos hL0, if_pos hL0, hoe]; rfl
              · rw [if_neg hL0, if_neg hL0]; rfl
            have Hc0 := Lib.hid hc0
            clear hMq hcE hc0
            generalize own (ptsOf L) (Sk.hash 255 key) = O at *
            have hcs : (((L.length : Int) == 0) = true ∧ c0 = 3) ∨ (((L.length : Int) == 0) = false ∧ c0 = 10) := by
              by_cases hL0 : L.length = 0
              · exact Or.inl ⟨by rw [beq_iff_eq]; omega, by rw [Hc0.out, if_pos hL0]⟩
              · exact Or.inr ⟨beq_eq_false_iff_ne.2 (by omega), by rw [Hc0.out, if_neg hL0]⟩
            clear Hc0
            have hmw : IntKind.i64.wrap most = most := IntWalk.i64_in _ (by omega)
            rcases hcs with ⟨g1, h3⟩ | ⟨g1, h3⟩
            all_goals
              have HC := Lib.hid h3
              clear h3
              go_wp2_with fail
              refine hon.mono ?_
              rintro e w7 ⟨o1, rfl, ho1, hb7⟩
              have hO1 := Lib.hid (Rd.own ho1)
              have hB8 := Lib.hid hb7
              have hD7 := Lib.hid (OwnsM.below hD6.out hb7)
              obtain ⟨A1, c1, rfl, hc1, -, -⟩ := Rd.own ho1
              clear ho1 hb7 hon g1 d1
              go_wp2_with fail
              go_loopw [15, 16, 82] (fun s c i wr => ∃ j : Nat, i = .int .i64 (j : Int) ∧ j ≤ L.length ∧ s = .string (str (asgS ((O.take j).find? (fun x => decide (ldOf D x < most))))) ∧ c = .int .i64 (if ((O.take j).find? (fun x => decide (ldOf D x < most))).isSome = true then 0 else c0) ∧ wr = w7) (fun _ _ i _ => L.length - (intOf i).toNat)
              case atStart => exact ⟨0, rfl, by omega, rfl, by rw [HC.out]; rfl, rfl⟩
              case round =>
                obtain ⟨j, rfl, hj, rfl, rfl, rfl⟩ := hrel
                by_cases hlt2 : j < L.length
                · obtain ⟨A', c', e', -, -, r'⟩ := hO1.out
                  cases e'
                  obtain ⟨g, of, rfl, _, x1⟩ := r' (by omega)
                  have hkO : j < O.length := by rw [hol.out]; exact hlt2
                  have t0 : wr.cell? ⟨g, of + j, none⟩ = some (.string (str O[j])) := x1 j _ (strs_at hkO)
                  have hlk := look_at hD7.out O[j] (by rw [hO5.out _ (List.getElem_mem hkO)]; decide)
                  have g2 : (0 : Int) ≤ (j : Int) := by omega
                  have g3 : (j : Int) < (L.length : Int) := by omega
                  have hstm : ∀ x, (O.take j).find? (fun x => decide (ldOf D x < most)) = some x → x ≠ [] := fun x hx e => by
                    have h1 := hO5.out x (List.mem_of_mem_take (List.mem_of_find?_eq_some hx))
                    rw [e] at h1; cases h1
                  have hfk := Lib.hid (fun x h => find_keep (p := fun x => decide (ldOf D x < most)) (x := x) hkO h)
                  have hfn := Lib.hid (fun h => find_new (p := fun x => decide (ldOf D x < most)) hkO h)
                  clear x1 r'
                  cases hst : (O.take j).find? (fun x => decide (ldOf D x < most)) with
                  | some y =>
                    have hy := hstm y hst
                    have q1 : ((str y).toList == ([] : List UInt8)) = false := by rw [str_toList, beq_eq_false_iff_ne]; exact hy
                    have q2 : (str y).toList.isEmpty = false := by rw [str_toList]; cases y with | nil => exact absurd rfl hy | cons => rfl
                    have hn := Lib.hid (hfk.out y hst)
                    clear hfk hfn hstm hst hy
                    generalize O[j] = x at *
                    clear hlk
                    simp only [asgS, Option.getD_some, Option.isSome_some, if_true]
                    go_wp2_with fail
                    go_roundw
                    case rel => exact ⟨j + 1, by go_num, by omega, by rw [hn.out]; rfl, by rw [hn.out]; rfl, by first | rfl | trivial⟩
                    case measure => simp [intOf]; omega
                  | none =>
                    have q1 : ((str []).toList == ([] : List UInt8)) = true := by rw [str_toList]; rfl
                    have q2 : (str []).toList.isEmpty = true := by rw [str_toList]; rfl
                    have hn := Lib.hid (hfn.out hst)
                    clear hfk hfn hstm hst
                    simp only [asgS, Option.getD_none, Option.isSome_none, Bool.false_eq_true, if_false]
                    by_cases hlo : ldOf D O[j] < most
                    · have hn2 := hn.out
                      rw [if_pos (by simpa using hlo)] at hn2
                      have Hn2 := Lib.hid hn2
                      have d3 : decide (ldOf D O[j] < most) = true := decide_eq_true hlo
                      clear hn hn2 hlo
                      generalize O[j] = x at *
                      generalize ldOf D x = cc at *
                      go_wp2_with fail
                      go_roundw
                      case rel => exact ⟨j + 1, by go_num, by omega, by rw [Hn2.out]; rfl, by rw [Hn2.out]; rfl, by first | rfl | trivial⟩
                      case measure => simp [intOf]; omega
                    · have hn2 := hn.out
                      rw [if_neg (by simpa using hlo)] at hn2
                      have Hn2 := Lib.hid hn2
                      have d3 : decide (ldOf D O[j] < most) = false := decide_eq_false hlo
                      clear hn hn2 hlo
                      generalize O[j] = x at *
                      generalize ldOf D x = cc at *
                      go_wp2_with fail
                      go_roundw
                      case rel => exact ⟨j + 1, by go_num, by omega, by rw [Hn2.out]; rfl, by rw [Hn2.out]; rfl, by first | rfl | trivial⟩
                      case measure => simp [intOf]; omega
                · rw [show O.take j = O from List.take_of_length_le (by rw [hol.out]; omega)]
                  have hAs := HA.out wr hB8.out
                  have hcS' := hcS.out
                  unfold asg at hcS' hAs
                  rw [hcS']
                  generalize asgS (O.find? (fun x => decide (ldOf D x < most))) = sS at *
                  go_wp2_with fail
                  refine hAs.mono ?_
                  rintro e w9 ⟨rfl, hb9⟩
                  have hB9 := Lib.hid (Below.next hB8.out hB8.out.size hb9)
                  have hnm := num_any cE w9
                  have q1 : ((str sS).toList == (str sS).toList) = true := str_eq rfl
                  have q2 : (cE == cE) = true := beq_self_eq_true cE
                  generalize errV cE = ev at *
                  clear hb9 hAs
                  go_wp2_with fail
                  refine hnm.mono ?_
                  rintro e w10 ⟨rfl, rfl⟩
                  go_wp2_with fail
                  go_roundw
                  case rel => exact ⟨t + 1, by go_num, by omega, Below.next hB7.out hB7.out.size hB9.out⟩
                  case measure => simp [intOf]; omega
          · have hBq := Lib.hid (hkB.out.trans (hB7.out.mono (by have := hkB.out.size; have := HBm.out; omega)))
            go_wp2_with fail
            go_ret
            exact ⟨rfl, HB2.out _ hBq.out⟩
  · go_enter Try.func6, Try.ntmps6
    go_wp2_with fail
    refine (hAw.out _).mono ?_
    rintro e w1 ⟨rfl, hb1⟩
    have hB1 := Lib.hid hb1
    clear hb1
    go_wp2_with fail
    all_goals
      refine (hAw.out _).mono ?_
      rintro e w2 ⟨rfl, hb2⟩
      have hB2 := Lib.hid hb2
      clear hb2
      go_wp2_with fail
      go_ret
      exact ⟨rfl, Below.next hB1.out hB1.out.size hB2.out⟩
end Go.Proofs.Ytjjbeahdoblacaa
