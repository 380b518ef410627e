/-
  sort.pdqsort_func with a comparison that may lay blocks: it computes the plain function pdq.
-/
import Derived.Test.YtpfpjcfacbfjaaaGreatDoorGIns
import Derived.Test.YtpfpjcfacbfjaaaGreatDoorGHeap
import Derived.Test.YtpfpjcfacbfjaaaGreatDoorGParteq
import Derived.Test.YtpfpjcfacbfjaaaGreatDoorGPart
import Derived.Test.YtpfpjcfacbfjaaaGreatDoorGPins
import Derived.Test.YtpfpjcfacbfjaaaGreatDoorGPivot
import Derived.Shelf.SlSortFuncK.BreakPatternsK
import Derived.Sort.Walk13
import Derived.Sort.AssemblyPlain
namespace Go.Proofs.YtpfpjcfacbfjaaaGreatDoor
open Go.Shelf Go.RowKit Go.Lib Go.Sort
variable {P : Program} {ρ : Ren} {α : Type} [Inhabited α]
section
variable {g : Nat} {lb : Array Value} {sf : Nat} {sb : Array Value} {enc : α → List Value} {k : Nat} {lt : α → α → Bool} {blk off : Nat}
set_option maxHeartbeats 12800000 in
set_option maxRecDepth 1000000 in
theorem pdq_g (L : LaysGg.n14 P ρ) (hO : SWO lt) : ∀ (N a b limit : Nat) (d : Array α) (w : World), b - a < N → SortIn P g lb sf sb enc k lt blk off d w → a ≤ b → b ≤ d.size → limit < 4611686018427387904 → Sort.Below lt a b d →
    Calls P (ρ.f 14) #[.agg #[.func (.func g) #[] lb, .func (.func sf) #[] sb], .int .i64 a, .int .i64 b, .int .i64 limit] w fun e w' => e = .returned (.tuple #[]) ∧ SWK enc k w blk off (pdq lt d a b limit true true) w' := by
  have mixed := L.mixed; have t0 := L.t0; have a0 := L.a0; have z0 := L.z0; have v0 := L.v0; have t3 := L.t3; have a3 := L.a3; have z3 := L.z3; have v3 := L.v3; have t4 := L.t4; have a4 := L.a4; have z4 := L.z4; have v4 := L.v4; have t5 := L.t5; have a5 := L.a5; have z5 := L.z5; have v5 := L.v5; have t9 := L.t9; have a9 := L.a9; have z9 := L.z9; have v9 := L.v9; have t26 := L.t26; have a26 := L.a26; have z26 := L.z26; have v26 := L.v26; have t37 := L.t37; have a37 := L.a37; have z37 := L.z37; have v37 := L.v37; have t41 := L.t41; have a41 := L.a41; have z41 := L.z41; have v41 := L.v41; have t44 := L.t44; have a44 := L.a44; have z44 := L.z44; have v44 := L.v44; have t49 := L.t49; have a49 := L.a49; have z49 := L.z49; have v49 := L.v49; have t51 := L.t51; have a51 := L.a51; have z51 := L.z51; have v51 := L.v51; have t53 := L.t53; have a53 := L.a53; have z53 := L.z53; have v53 := L.v53; have t54 := L.t54; have a54 := L.a54; have z54 := L.z54; have v54 := L.v54; have t58 := L.t58; have a58 := L.a58; have z58 := L.z58; have v58 := L.v58; have t60 := L.t60; have a60 := L.a60; have z60 := L.z60; have v60 := L.v60; have t64 := L.t64; have a64 := L.a64; have z64 := L.z64; have v64 := L.v64; have t66 := L.t66; have a66 := L.a66; have z66 := L.z66; have v66 := L.v66; have t67 := L.t67; have a67 := L.a67; have z67 := L.z67; have v67 := L.v67
  have u44 := run_underlying L.t44
  have e26 : ∀ args w, (callFunc (ρ.f 26) args).run P w = .ok (.enter (ρ.f 26) args) w := enters_of L.f26 (by kernel_rfl) rfl
  have e27 : ∀ args w, (callFunc (ρ.f 27) args).run P w = .ok (.enter (ρ.f 27) args) w := enters_of L.f27 (by kernel_rfl) rfl
  have e28 : ∀ args w, (callFunc (ρ.f 28) args).run P w = .ok (.enter (ρ.f 28) args) w := enters_of L.f28 (by kernel_rfl) rfl
  have e29 : ∀ args w, (callFunc (ρ.f 29) args).run P w = .ok (.enter (ρ.f 29) args) w := enters_of L.f29 (by kernel_rfl) rfl
  have e30 : ∀ args w, (callFunc (ρ.f 30) args).run P w = .ok (.enter (ρ.f 30) args) w := enters_of L.f30 (by kernel_rfl) rfl
  have e31 : ∀ args w, (callFunc (ρ.f 31) args).run P w = .ok (.enter (ρ.f 31) args) w := enters_of L.f31 (by kernel_rfl) rfl
  have e32 : ∀ args w, (callFunc (ρ.f 32) args).run P w = .ok (.enter (ρ.f 32) args) w := enters_of L.f32 (by kernel_rfl) rfl
  have e33 : ∀ args w, (callFunc (ρ.f 33) args).run P w = .ok (.enter (ρ.f 33) args) w := enters_of L.f33 (by kernel_rfl) rfl
  have e14 : ∀ args w, (callFunc (ρ.f 14) args).run P w = .ok (.enter (ρ.f 14) args) w := enters_of L.f14 (by kernel_rfl) rfl
  have HL := Lib.hid L
  intro N
  induction N with
  | zero => intro _ _ _ _ _ h; exact absurd h (Nat.not_lt_zero _)
  | succ N ih =>
    intro a b limit d w hN S hab hb hlimit hBel0
    have eg := S.eg
    have hsz := S.sz
    have hbl := S.blk_lt
    have S1 := S.boxed (.cells #[.func (.func g) #[] lb, .func (.func sf) #[] sb] (ρ.t 44))
    have st := Lib.hid S1.start
    have HS := Lib.hid S1
    have IH := Lib.hid ih
    clear S S1 ih L
    go_enter HL.out.f14, BodyGg.n14_ntmps ρ
    go_wp2
    go_loopg [1, 2, 3, 8, 9] (b - a) (fun kx s1 s2 s3 s8 s9 wr => ∃ (a' b' lim : Nat) (wb wp : Bool) (dk : Array α), s1 = .int .i64 a' ∧ s2 = .int .i64 b' ∧ s3 = .int .i64 lim ∧ s8 = .bool wb ∧ s9 = .bool wp ∧
      a' ≤ b' ∧ b' ≤ d.size ∧ b' - a' ≤ kx ∧ kx ≤ b - a ∧ lim ≤ limit ∧ dk.size = d.size ∧ Hid (Sort.Below lt a' b' dk) ∧ Hid (SWK enc k (w.alloc (.cells #[.func (.func g) #[] lb, .func (.func sf) #[] sb] (ρ.t 44))) blk off dk wr) ∧ Hid (pdq lt dk a' b' lim wb wp = pdq lt d a b limit true true))
    case atStart => exact ⟨a, b, limit, true, true, d, rfl, rfl, rfl, rfl, rfl, hab, hb, Nat.le_refl _, Nat.le_refl _, Nat.le_refl _, rfl, hBel0, st, rfl⟩
    case round =>
      obtain ⟨a', b', lim, wb, wp, dk, rfl, rfl, rfl, rfl, rfl, hab', hb', hkx, hkN, hlim, hds, hBel, hW, A⟩ := hrel
      clear st hBel0
      obtain ⟨x0, x1⟩ := swk_box hbl hW.out
      by_cases h12 : b' - a' ≤ 12
      · have h12z : (b' : Int) - (a' : Int) ≤ 12 := by omega
        have hc := ins_g (P := P) (ρ := ρ) { HL.out with } (HS.out.on hW.out hds) a' b' hab' (by omega)
        have hR : Hid (insertionSort lt dk a' b' = pdq lt d a b limit true true) := by show _ = _; rw [← A.out, pdq_small h12]
        have hz : Hid ((insertionSort lt dk a' b').size = dk.size) := (insertionSort_holds hO dk a' b' hab' (by omega)).1.1
        go_wp2_with (go_at_fn (ρ.f 26); refine hc.mono ?_; rintro e w1 ⟨rfl, hw1⟩; have hW2 := Lib.hid (swk_trans hW.out HS.out.blk_lt hz.out hw1); clear hw1)
        (try simp only [Exit.inBlock, Exit.then]); refine bodyPost_ret (results_none rfl _ _ _) rfl ?_
        exact ⟨rfl, by rw [← hR.out]; exact swk_alloc hW2.out hbl⟩
      · have h12z : ¬ ((b' : Int) - (a' : Int) ≤ 12) := by omega
        by_cases hl0 : lim = 0
        · subst hl0
          have hc := heap_g (P := P) (ρ := ρ) { HL.out with } (HS.out.on hW.out hds) a' b' hab' (by omega)
          have hR : Hid (heapSort lt dk a' b' = pdq lt d a b limit true true) := by show _ = _; rw [← A.out, pdq_heap h12 rfl]
          have hz : Hid ((heapSort lt dk a' b').size = dk.size) := (heapSort_holds hO dk a' b' hab' (by omega)).1.1
          go_wp2_with (go_at_fn (ρ.f 27); refine hc.mono ?_; rintro e w1 ⟨rfl, hw1⟩; have hW2 := Lib.hid (swk_trans hW.out HS.out.blk_lt hz.out hw1); clear hw1)
          (try simp only [Exit.inBlock, Exit.then]); refine bodyPost_ret (results_none rfl _ _ _) rfl ?_
          exact ⟨rfl, by rw [← hR.out]; exact swk_alloc hW2.out hbl⟩
        · have hl0z : ¬ ((lim : Int) = 0) := by omega
          obtain ⟨s1, B1, hc1, s2, B2, hpv, s3, B3⟩ := rd_facts (lt := lt) (limit := lim) (wb := wb) (wp := wp) hO partialInsertionSort_holds reverseRange_holds (show a' < b' by omega) (show b' ≤ dk.size by omega) hBel.out
          have hd1 := Lib.hid (s1.trans hds)
          have hd2 := Lib.hid (s2.trans hds)
          have hd3 := Lib.hid (s3.trans hds)
          have hpv1 := hpv.1
          have hpv2 := hpv.2
          have HB1 := Lib.hid B1
          have HB3 := Lib.hid B3
          have s1' := Lib.hid s1
          have s2' := Lib.hid s2
          have s3' := Lib.hid s3
          clear B1 B2 B3 s1 s2 s3 hpv
          -- the first if: breakPatterns
          go_upto_if 35 with fail
          go_cut [3] from 19 (fun s3 wc => s3 = .int .i64 ((rd lt dk a' b' lim wb wp).lim) ∧ Hid (SWK enc k (w.alloc (.cells #[.func (.func g) #[] lb, .func (.func sf) #[] sb] (ρ.t 44))) blk off (rd lt dk a' b' lim wb wp).d1 wc))
          case first =>
            cases wb
            · have hc := Any.breakPatterns_func_cells_w (P := P) (ρ := ρ) { HL.out with } enc k HS.out.hk (.func g) #[] lb sf sb blk off a' b' dk wr (HS.out.on hW.out hds).swap (HS.out.on hW.out hds).holds (HS.out.on hW.out hds).blk_lt hab' (by omega) (by omega)
              go_wp2_with (go_at_fn (ρ.f 28); refine hc.mono ?_; rintro e w1 ⟨rfl, hw1⟩; replace hw1 := Lib.hid hw1)
              go_meet
              case rel =>
                refine ⟨?_, swk_trans hW.out HS.out.blk_lt s1'.out hw1.out⟩
                show Value.int .i64 ((lim : Int) - 1) = Value.int .i64 ((lim - 1 : Nat) : Int)
                congr 1
                omega
            · go_wp2_with fail
              go_meet
              case rel => exact ⟨rfl, hW⟩
          case rest =>
            obtain ⟨rfl, hW1⟩ := hcut
            clear x0 x1
            obtain ⟨y0, y1⟩ := swk_box hbl hW1.out
            have hc17 : Calls P (ρ.f 29) #[.agg #[.func (.func g) #[] lb, .func (.func sf) #[] sb], .int .i64 a', .int .i64 b'] wc fun e w' => e = .returned (.tuple #[.int .i64 (rd lt dk a' b' lim wb wp).c.1, .int .i64 (hintCode (rd lt dk a' b' lim wb wp).c.2)]) ∧ SWK enc k wc blk off (rd lt dk a' b' lim wb wp).d1 w' :=
              pivot_g (P := P) (ρ := ρ) { HL.out with } (HS.out.on hW1.out hd1.out) a' b' (by omega) (by have := hd1.out; omega)
            go_upto_if 50 with (go_at_fn (ρ.f 29); refine hc17.mono ?_; rintro e w2 ⟨rfl, hw2⟩; have hW2 := Lib.hid (swk_trans hW1.out HS.out.blk_lt rfl hw2); clear hw2)
            clear y0 y1
            obtain ⟨z0, z1⟩ := swk_box hbl hW2.out
            -- the second if: reverseRange
            go_cut [11, 12] from 19 (fun s11 s12 wc => s11 = .int .i64 (rd lt dk a' b' lim wb wp).pivot ∧ s12 = .int .i64 (hintCode (rd lt dk a' b' lim wb wp).hint) ∧ Hid (SWK enc k (w.alloc (.cells #[.func (.func g) #[] lb, .func (.func sf) #[] sb] (ρ.t 44))) blk off (rd lt dk a' b' lim wb wp).d2 wc))
            case first =>
              by_cases hh : (rd lt dk a' b' lim wb wp).c.2 = .decreasing
              · have hcode : hintCode (rd lt dk a' b' lim wb wp).c.2 = 2 := by rw [hh]; rfl
                obtain ⟨e2, epv, eht⟩ := rd_dec hh
                have E2 := Lib.hid e2
                have EPV := Lib.hid epv
                have EHT := Lib.hid eht
                clear e2 epv eht hh
                have S2 := HS.out.on hW2.out hd1.out
                have hc18 := Any.reverseRange_func_cells_w (P := P) (ρ := ρ) { HL.out with } enc k HS.out.hk (.func g) #[] lb sf sb blk off a' b' (rd lt dk a' b' lim wb wp).d1 _ S2.swap S2.holds S2.blk_lt hab' (by have := hd1.out; omega) S2.sz
                clear S2
                go_wp2_with (go_at_fn (ρ.f 30); refine hc18.mono ?_; rintro e w3 ⟨rfl, hw3⟩; replace hw3 := Lib.hid hw3)
                go_meet
                case rel =>
                  refine ⟨?_, by rw [EHT.out]; rfl, ?_⟩
                  · rw [EPV.out]
                    congr 1
                    omega
                  · show SWK _ _ _ _ _ _ _
                    rw [E2.out]
                    exact swk_trans hW2.out HS.out.blk_lt (by rw [← E2.out, s2'.out, s1'.out]) hw3.out
              · have hcode : ¬ (hintCode (rd lt dk a' b' lim wb wp).c.2 = 2) := fun h => hh (hintCode_two h)
                obtain ⟨e2, epv, eht⟩ := rd_not hh
                have E2 := Lib.hid e2
                have EPV := Lib.hid epv
                have EHT := Lib.hid eht
                clear e2 epv eht hh
                go_wp2_with fail
                go_meet
                case rel => exact ⟨by rw [EPV.out], by rw [EHT.out], by rw [E2.out]; exact hW2⟩
            case rest =>
              obtain ⟨rfl, rfl, hW3⟩ := hcut
              clear z0 z1
              obtain ⟨v0, v1⟩ := swk_box hbl hW3.out
              -- the test of the three flags
              go_upto_region 16 with fail
              go_cut [12, 68] from 19 (fun s12 s68 wx => s12 = .int .i64 (hintCode (rd lt dk a' b' lim wb wp).hint) ∧ s68 = .bool (wb && wp && decide ((rd lt dk a' b' lim wb wp).hint = .increasing)) ∧ wx = wc)
              case first =>
                cases wb <;> cases wp <;> cases hh3 : (rd lt dk a' b' lim _ _).hint <;>
                  (have hcode3 := congrArg hintCode hh3
                   simp only [hintCode] at hcode3
                   go_wp2_with fail
                   go_meet
                   exact ⟨by simp [hh3, hintCode], by simp [hh3, hintCode], rfl⟩)
              case rest =>
                obtain ⟨rfl, rfl, rfl⟩ := hcut
                -- the third if: partialInsertionSort; one way returns
                go_upto_if 68 with fail
                go_cut [] from 19 (fun wx => (rd lt dk a' b' lim wb wp).pi.2 = false ∧ Hid (SWK enc k (w.alloc (.cells #[.func (.func g) #[] lb, .func (.func sf) #[] sb] (ρ.t 44))) blk off (rd lt dk a' b' lim wb wp).pi.1 wx))
                case first =>
                  cases h68 : (wb && wp && decide ((rd lt dk a' b' lim wb wp).hint = .increasing))
                  · have epi := Lib.hid (rd_pi_no h68)
                    go_wp2_with fail
                    go_meet
                    case rel => exact ⟨by rw [epi.out], by rw [epi.out]; exact hW3⟩
                  · have epi := rd_pi_yes h68
                    have hc19 := pins_g (P := P) (ρ := ρ) { HL.out with } (HS.out.on hW3.out hd2.out) a' b' (by omega) (by have := hd2.out; omega)
                    rw [← epi] at hc19
                    replace epi := Lib.hid epi
                    go_wp2_with (go_at_fn (ρ.f 31); refine hc19.mono ?_; rintro e w4 ⟨rfl, hw4⟩; have hW4 := Lib.hid (swk_trans hW3.out HS.out.blk_lt (s3'.out.trans s2'.out.symm) hw4); clear hw4)
                    all_goals first
                      | (have hp2 : (rd lt dk a' b' lim wb wp).pi.2 = false := by rw [epi.out]; rw [← epi.out]; assumption
                         go_meet
                         exact ⟨hp2, hW4⟩)
                      | (have hp2 : (rd lt dk a' b' lim wb wp).pi.2 = true := by rw [epi.out]; rw [← epi.out]; assumption
                         (try simp only [Exit.inBlock, Exit.then]); refine bodyPost_ret (results_none rfl _ _ _) rfl ?_
                         refine ⟨rfl, ?_⟩
                         rw [← A.out, pdq_done h12 hl0 hp2]
                         exact swk_alloc hW4.out hbl)
                case rest =>
                  obtain ⟨hp2, hW5⟩ := hcut
                  replace hp2 := Lib.hid hp2
                  clear v0 v1
                  obtain ⟨t0, t1⟩ := swk_box hbl hW5.out
                  -- the test of the element before the piece
                  go_upto_region 18 with fail
                  go_cut [83] from 19 (fun s83 wx => s83 = .bool (decide (a' > 0) && !lt (rd lt dk a' b' lim wb wp).pi.1[a' - 1]! (rd lt dk a' b' lim wb wp).pi.1[(rd lt dk a' b' lim wb wp).pivot]!) ∧ Hid (SWK enc k (w.alloc (.cells #[.func (.func g) #[] lb, .func (.func sf) #[] sb] (ρ.t 44))) blk off (rd lt dk a' b' lim wb wp).pi.1 wx))
                  case first =>
                    rcases Nat.eq_zero_or_pos a' with ha0 | ha0
                    · have ha0z : decide ((a' : Int) > 0) = false := decide_eq_false (by omega)
                      have HA := Lib.hid ha0
                      have ha0y : ¬ 0 < a' := by omega
                      have ha0x : decide (0 < a') = false := decide_eq_false (by omega)
                      clear ha0
                      go_wp2_with fail
                      go_meet
                      case rel => exact ⟨by simp [HA.out], hW5⟩
                    · have ha0z : (a' : Int) > 0 := by omega
                      have HA := Lib.hid ha0
                      cases hlv : lt (rd lt dk a' b' lim wb wp).pi.1[a' - 1]! (rd lt dk a' b' lim wb wp).pi.1[(rd lt dk a' b' lim wb wp).pivot]! <;>
                        (have hl := HS.out.ask hW5.out hd3.out (a' - 1) (rd lt dk a' b' lim wb wp).pivot (by omega) (by have := hd3.out; omega) (x := (a' : Int) - 1) (by omega) rfl hlv
                         replace hlv := Lib.hid hlv
                         go_wp2_with (go_at_fn g; refine hl.mono ?_; rintro e w' ⟨rfl, hg⟩; have hW6 := Lib.hid (swk_grown hW5.out hg); clear hg)
                         go_meet
                         exact ⟨by simp [HA.out, hlv.out], hW6⟩)
                  case rest =>
                    obtain ⟨rfl, hW6⟩ := hcut
                    clear t0 t1
                    obtain ⟨q0, q1⟩ := swk_box hbl hW6.out
                    have S6 := Lib.hid (HS.out.on hW6.out hd3.out)
                    cases h87 : (decide (a' > 0) && !lt (rd lt dk a' b' lim wb wp).pi.1[a' - 1]! (rd lt dk a' b' lim wb wp).pi.1[(rd lt dk a' b' lim wb wp).pivot]!)
                    · obtain ⟨mid, ap, d4, hx⟩ : ∃ mid ap d4, partition lt (rd lt dk a' b' lim wb wp).pi.1 a' b' (rd lt dk a' b' lim wb wp).pivot = (mid, ap, d4) := ⟨(partition lt (rd lt dk a' b' lim wb wp).pi.1 a' b' (rd lt dk a' b' lim wb wp).pivot).1, (partition lt (rd lt dk a' b' lim wb wp).pi.1 a' b' (rd lt dk a' b' lim wb wp).pivot).2.1, (partition lt (rd lt dk a' b' lim wb wp).pi.1 a' b' (rd lt dk a' b' lim wb wp).pivot).2.2, rfl⟩
                      obtain ⟨r1, r2, r3, r4, r5, r6, r7⟩ := round_part hO (partition_holds lt) hpv1 hpv2 (show b' ≤ (rd lt dk a' b' lim wb wp).pi.1.size by have := hd3.out; omega) HB3.out hx
                      have hc22 := part_g (P := P) (ρ := ρ) { HL.out with } S6.out a' b' (rd lt dk a' b' lim wb wp).pivot hpv1 hpv2 (by have := hd3.out; omega)
                      rw [hx] at hc22
                      have X := Lib.hid hx
                      have R3 := Lib.hid r3
                      have R4 := Lib.hid r4
                      have R5 := Lib.hid r5
                      have R6 := Lib.hid r6
                      have R7 := Lib.hid r7
                      have H87 := Lib.hid h87
                      clear hx r3 r4 r5 r6 r7 h87
                      go_upto_if 109 with (go_at_fn (ρ.f 33); refine hc22.mono ?_; rintro e w7 ⟨rfl, hw7⟩; have hW7 := Lib.hid (swk_trans hW6.out HS.out.blk_lt R3.out hw7); clear hw7)
                      have hs4 := Lib.hid (R3.out.trans hd3.out)
                      clear q0 q1
                      obtain ⟨p0, p1⟩ := swk_box hbl hW7.out
                      have S7 := Lib.hid (HS.out.on hW7.out hs4.out)
                      by_cases h4 : mid - a' < b' - mid
                      · have h4z : (mid : Int) - (a' : Int) < (b' : Int) - (mid : Int) := by omega
                        have hih := IH.out a' mid (rd lt dk a' b' lim wb wp).lim d4 _ (by omega) S7.out (by omega) (by have := hs4.out; omega) (Nat.lt_of_le_of_lt (Nat.le_trans rd_lim_le hlim) hlimit) R4.out
                        obtain ⟨pL, sL⟩ := pdq_sorts lt hO d4 a' mid (rd lt dk a' b' lim wb wp).lim true true (by omega) (by have := hs4.out; omega) R4.out
                        have PL := Lib.hid pL
                        have SL := Lib.hid sL
                        clear pL sL
                        go_wp2_with (go_at_fn (ρ.f 14); refine hih.mono ?_; rintro e w8 ⟨rfl, hw8⟩; have hW8 := Lib.hid (swk_trans hW7.out HS.out.blk_lt PL.out.1 hw8); clear hw8)
                        go_roundg (b' - (mid + 1))
                        case measure => omega
                        case rel =>
                          refine ⟨mid + 1, b', (rd lt dk a' b' lim wb wp).lim, decide (mid - a' ≥ (b' - a') / 8), ap, pdq lt d4 a' mid (rd lt dk a' b' lim wb wp).lim true true, by simp, rfl, rfl, ?_, rfl, by omega, by omega, Nat.le_refl _, by omega, Nat.le_trans rd_lim_le hlim, by rw [PL.out.1, hs4.out], (R6.out _ PL.out SL.out).1, hW8, (show Hid _ from ?_)⟩
                          · exact congrArg Value.bool (eighth (by omega) (by omega))
                          · show _ = _
                            rw [← A.out, pdq_left h12 hl0 hp2.out H87.out (by rw [X.out]; exact ⟨r1, r2⟩) (by rw [X.out]; exact h4), X.out]
                      · have h4z : ¬ ((mid : Int) - (a' : Int) < (b' : Int) - (mid : Int)) := by omega
                        have hih := IH.out (mid + 1) b' (rd lt dk a' b' lim wb wp).lim d4 _ (by omega) S7.out (by omega) (by have := hs4.out; omega) (Nat.lt_of_le_of_lt (Nat.le_trans rd_lim_le hlim) hlimit) R5.out
                        rw [show ((mid + 1 : Nat) : Int) = (mid : Int) + 1 by omega] at hih
                        obtain ⟨pL, sL⟩ := pdq_sorts lt hO d4 (mid + 1) b' (rd lt dk a' b' lim wb wp).lim true true (by omega) (by have := hs4.out; omega) R5.out
                        have PL := Lib.hid pL
                        have SL := Lib.hid sL
                        clear pL sL
                        go_wp2_with (go_at_fn (ρ.f 14); refine hih.mono ?_; rintro e w8 ⟨rfl, hw8⟩; have hW8 := Lib.hid (swk_trans hW7.out HS.out.blk_lt PL.out.1 hw8); clear hw8)
                        go_roundg (mid - a')
                        case measure => omega
                        case rel =>
                          refine ⟨a', mid, (rd lt dk a' b' lim wb wp).lim, decide (b' - mid ≥ (b' - a') / 8), ap, pdq lt d4 (mid + 1) b' (rd lt dk a' b' lim wb wp).lim true true, rfl, rfl, rfl, ?_, rfl, by omega, by omega, Nat.le_refl _, by omega, Nat.le_trans rd_lim_le hlim, by rw [PL.out.1, hs4.out], (R7.out _ PL.out SL.out).1, hW8, (show Hid _ from ?_)⟩
                          · exact congrArg Value.bool (eighth (by omega) (by omega))
                          · show _ = _
                            rw [← A.out, pdq_right h12 hl0 hp2.out H87.out (by rw [X.out]; exact ⟨r1, r2⟩) (by rw [X.out]; exact h4), X.out]
                    · have h87' := h87
                      simp only [Bool.and_eq_true, decide_eq_true_eq, Bool.not_eq_true'] at h87'
                      obtain ⟨mid, d4, hx⟩ : ∃ mid d4, partitionEqual lt (rd lt dk a' b' lim wb wp).pi.1 a' b' (rd lt dk a' b' lim wb wp).pivot = (mid, d4) := ⟨(partitionEqual lt (rd lt dk a' b' lim wb wp).pi.1 a' b' (rd lt dk a' b' lim wb wp).pivot).1, (partitionEqual lt (rd lt dk a' b' lim wb wp).pi.1 a' b' (rd lt dk a' b' lim wb wp).pivot).2, rfl⟩
                      obtain ⟨r1, r2, r3, r4, _⟩ := round_eq hO (partitionEqual_holds lt) h87'.1 hpv1 hpv2 (show b' ≤ (rd lt dk a' b' lim wb wp).pi.1.size by have := hd3.out; omega) HB3.out h87'.2 hx
                      have hc21 := parteq_g (P := P) (ρ := ρ) { HL.out with } S6.out a' b' (rd lt dk a' b' lim wb wp).pivot hpv1 hpv2 (by have := hd3.out; omega)
                      rw [hx] at hc21
                      have X := Lib.hid hx
                      have R3 := Lib.hid r3
                      have R4 := Lib.hid r4
                      have H87 := Lib.hid h87
                      clear hx r3 r4 h87 h87'
                      go_wp2_with (go_at_fn (ρ.f 32); refine hc21.mono ?_; rintro e w7 ⟨rfl, hw7⟩; have hW7 := Lib.hid (swk_trans hW6.out HS.out.blk_lt R3.out hw7); clear hw7)
                      go_roundg (b' - mid)
                      case measure => omega
                      case rel =>
                        refine ⟨mid, b', (rd lt dk a' b' lim wb wp).lim, wb, wp, d4, rfl, rfl, rfl, rfl, rfl, r2, hb', Nat.le_refl _, by omega, Nat.le_trans rd_lim_le hlim, by rw [R3.out, hd3.out], R4.out, hW7, (show Hid _ from ?_)⟩
                        show _ = _
                        rw [← A.out, pdq_eq h12 hl0 hp2.out H87.out (by rw [X.out]; exact ⟨r1, r2⟩), X.out]
end
end Go.Proofs.YtpfpjcfacbfjaaaGreatDoor
