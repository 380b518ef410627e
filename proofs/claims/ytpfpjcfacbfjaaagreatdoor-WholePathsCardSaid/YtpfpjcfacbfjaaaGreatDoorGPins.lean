/-
  sort.partialInsertionSort_func with a comparison that may lay blocks.
-/
import Derived.Test.YtpfpjcfacbfjaaaGreatDoorGKit
import Derived.Sort.WalkA6
namespace Go.Proofs.YtpfpjcfacbfjaaaGreatDoor
open Go.Shelf Go.RowKit Go.Lib Go.Sort
variable {P : Program} {ρ : Ren} {α : Type} [Inhabited α]
section
variable {g : Nat} {lb : Array Value} {sf : Nat} {sb : Array Value} {enc : α → List Value} {k : Nat} {lt : α → α → Bool} {blk off : Nat} {d : Array α} {w : World}
set_option maxHeartbeats 16000000 in
set_option maxRecDepth 1000000 in
theorem pins_g (L : LaysGg.n31 P ρ) (S : SortIn P g lb sf sb enc k lt blk off d w) (a b : Nat) (hab : a < b) (hb : b ≤ d.size) :
    Calls P (ρ.f 31) #[.agg #[.func (.func g) #[] lb, .func (.func sf) #[] sb], .int .i64 a, .int .i64 b] w fun e w' =>
      e = .returned (.bool (Sort.partialInsertionSort lt d a b).2) ∧ SWK enc k w blk off (Sort.partialInsertionSort lt d a b).1 w' := by
  have mixed := L.mixed; have t0 := L.t0; have a0 := L.a0; have z0 := L.z0; have v0 := L.v0; have t3 := L.t3; have a3 := L.a3; have z3 := L.z3; have v3 := L.v3; have t4 := L.t4; have a4 := L.a4; have z4 := L.z4; have v4 := L.v4; have t26 := L.t26; have a26 := L.a26; have z26 := L.z26; have v26 := L.v26; have t37 := L.t37; have a37 := L.a37; have z37 := L.z37; have v37 := L.v37; have t44 := L.t44; have a44 := L.a44; have z44 := L.z44; have v44 := L.v44
  have u44 := run_underlying L.t44
  have eg := S.eg
  have hsz := S.sz
  have hbl := S.blk_lt
  have S1 := S.boxed (.cells #[.func (.func g) #[] lb, .func (.func sf) #[] sb] (ρ.t 44))
  have st := Lib.hid S1.start
  have HS := Lib.hid S1
  clear S S1
  go_enter L.f31, BodyGg.n31_ntmps ρ
  go_wp2
  go_loopg [7, 8] 5 (fun g1 vi vs wr => ∃ (i s : Nat) (dk : Array α), vi = .int .i64 i ∧ vs = .int .i64 s ∧ s ≤ 5 ∧ 5 - s ≤ g1 ∧ a < i ∧ i ≤ b ∧ dk.size = d.size ∧ Hid (SWK enc k (w.alloc (.cells #[.func (.func g) #[] lb, .func (.func sf) #[] sb] (ρ.t 44))) blk off dk wr) ∧ Hid (partialIns lt a b (5 - s) i dk = partialIns lt a b 5 (a + 1) d))
  case atStart => exact ⟨a + 1, 0, d, by go_num, rfl, by omega, by omega, by omega, by omega, rfl, st, rfl⟩
  case round =>
    obtain ⟨i, s, dk, rfl, rfl, hs5, hg1, hai, hib, hsk, hWo, HO⟩ := hrel
    clear st
    by_cases hs : s < 5
    · have hsz5 : (s : Int) < 5 := by omega
      go_wp2
      go_loopg [7] (b - i) (fun g2 vi wr2 => ∃ (kx : Nat), vi = .int .i64 kx ∧ i ≤ kx ∧ kx ≤ b ∧ b - kx ≤ g2 ∧ Hid (SWK enc k (w.alloc (.cells #[.func (.func g) #[] lb, .func (.func sf) #[] sb] (ρ.t 44))) blk off dk wr2) ∧ Hid (scanSorted lt dk b kx = scanSorted lt dk b i))
      case atStart => exact ⟨i, rfl, Nat.le_refl _, hib, Nat.le_refl _, hWo, rfl⟩
      case round =>
        clear hWo
        obtain ⟨kx, rfl, hik, hkb, hg2, hW, HSc⟩ := hrel
        obtain ⟨c0, c1⟩ := swk_box hbl hW.out
        by_cases hkb' : kx < b
        · have hkz : (kx : Int) < (b : Int) := by omega
          have HKm := Lib.hid (show ((kx - 1 : Nat) : Int) = (kx : Int) - 1 by omega)
          cases hlv : lt dk[kx]! dk[kx - 1]! with
          | false =>
            have hl := HS.out.ask hW.out hsk kx (kx - 1) (by omega) (by omega) rfl HKm.out hlv
            have hE : Hid (scanSorted lt dk b (kx + 1) = scanSorted lt dk b i) := by show _ = _; rw [← HSc.out, scanSorted_go lt dk b kx hkb' hlv]
            clear hlv
            go_wp2_with (go_at_fn g; refine hl.mono ?_; rintro e w' ⟨rfl, hg⟩; have hW2 := Lib.hid (swk_grown hW.out hg); clear hg)
            go_roundg (b - (kx + 1))
            case measure => omega
            case rel => exact ⟨kx + 1, by go_num, by omega, by omega, Nat.le_refl _, hW2, hE⟩
          | true =>
            have hl := HS.out.ask hW.out hsk kx (kx - 1) (by omega) (by omega) rfl HKm.out hlv
            have HK : Hid (scanSorted lt dk b i = kx) := by show _ = _; rw [← HSc.out, scanSorted_stop lt dk b kx (Or.inr hlv)]
            have hkne : ((kx : Int) == (b : Int)) = false := beq_eq_false_iff_ne.2 (by omega)
            clear hlv
            by_cases h50 : b - a < 50
            · have h50z : (b : Int) - (a : Int) < 50 := by omega
              have hv : Hid (Sort.partialInsertionSort lt d a b = (dk, false)) := by
                show _ = _
                unfold Sort.partialInsertionSort
                rw [← HO.out, pi_short lt a b s i dk hs (by rw [HK.out]; omega) h50]
              go_wp2_with (go_at_fn g; refine hl.mono ?_; rintro e w' ⟨rfl, hg⟩; have hW2 := Lib.hid (swk_grown hW.out hg); clear hg)
              go_ret
              rw [hv.out]
              exact ⟨rfl, swk_alloc hW2.out hbl⟩
            · have h50z : ¬ ((b : Int) - (a : Int) < 50) := by omega
              have hX1 : Hid ((swp dk kx (kx - 1)).size = d.size) := by show _ = _; rw [size_swp]; exact hsk
              by_cases hka : kx - a ≥ 2
              · have hkaz : (2 : Int) ≤ (kx : Int) - (a : Int) := by omega
                go_wp2_with (go_at_fn g; refine hl.mono ?_; rintro e w' ⟨rfl, hg⟩; have hW2 := Lib.hid (swk_grown hW.out hg); obtain ⟨W4, he, hW4⟩ := HS.out.exch hW2.out hsk kx (kx - 1) (by omega) (by omega) rfl HKm.out; obtain ⟨c2, c3⟩ := swk_box hbl hW2.out; replace hW4 := Lib.hid hW4; clear hg)
                go_loopg [9] (kx - 1) (fun g3 vj wr3 => ∃ (j : Nat) (dj : Array α), vj = .int .i64 j ∧ j ≤ kx - 1 ∧ j ≤ g3 ∧ dj.size = d.size ∧ Hid (SWK enc k (w.alloc (.cells #[.func (.func g) #[] lb, .func (.func sf) #[] sb] (ρ.t 44))) blk off dj wr3) ∧ Hid (shiftDown lt j dj = shiftDown lt (kx - 1) (swp dk kx (kx - 1))))
                case atStart => exact ⟨kx - 1, swp dk kx (kx - 1), by congr 1; omega, Nat.le_refl _, Nat.le_refl _, hX1.out, hW4, rfl⟩
                case round =>
                  clear he c2 c3 hW2 hW4 c0 c1 hW hl
                  obtain ⟨j, dj, rfl, hjk, hg3, hsj, hW, HDn⟩ := hrel
                  obtain ⟨c0, c1⟩ := swk_box hbl hW.out
                  by_cases hj1 : 1 ≤ j
                  · have hj1z : (1 : Int) ≤ (j : Int) := by omega
                    have HJm := Lib.hid (show ((j - 1 : Nat) : Int) = (j : Int) - 1 by omega)
                    cases hlv2 : lt dj[j]! dj[j - 1]! with
                    | true =>
                      have hl2 := HS.out.ask hW.out hsj j (j - 1) (by omega) (by omega) rfl HJm.out hlv2
                      have hE : Hid (shiftDown lt (j - 1) (swp dj j (j - 1)) = shiftDown lt (kx - 1) (swp dk kx (kx - 1))) := by show _ = _; rw [← HDn.out, shiftDown_go lt j dj hj1 hlv2]
                      clear hlv2
                      go_wp2_with (go_at_fn g; refine hl2.mono ?_; rintro e w' ⟨rfl, hg⟩; have hW2 := Lib.hid (swk_grown hW.out hg); obtain ⟨W4, he, hW4⟩ := HS.out.exch hW2.out hsj j (j - 1) (by omega) (by omega) rfl HJm.out; obtain ⟨c2, c3⟩ := swk_box hbl hW2.out; replace hW4 := Lib.hid hW4; clear hg)
                      go_roundg (j - 1)
                      case measure => omega
                      case rel => exact ⟨j - 1, swp dj j (j - 1), by congr 1; omega, by omega, Nat.le_refl _, by rw [size_swp]; exact hsj, hW4, hE⟩
                    | false =>
                      have hl2 := HS.out.ask hW.out hsj j (j - 1) (by omega) (by omega) rfl HJm.out hlv2
                      have HD : Hid (fixDown lt a kx (swp dk kx (kx - 1)) = dj) := by show _ = _; unfold fixDown; rw [if_pos hka, ← HDn.out, shiftDown_stop lt j dj (Or.inr hlv2)]
                      clear hlv2
                      by_cases hbk : b - kx ≥ 2
                      · have hbkz : (2 : Int) ≤ (b : Int) - (kx : Int) := by omega
                        go_wp2_with (go_at_fn g; refine hl2.mono ?_; rintro e w' ⟨rfl, hg⟩; have hW2 := Lib.hid (swk_grown hW.out hg); clear hg)
                        go_loopg [10] (b - (kx + 1)) (fun g4 vj wr4 => ∃ (ju : Nat) (du : Array α), vj = .int .i64 ju ∧ kx + 1 ≤ ju ∧ ju ≤ b ∧ b - ju ≤ g4 ∧ du.size = d.size ∧ Hid (SWK enc k (w.alloc (.cells #[.func (.func g) #[] lb, .func (.func sf) #[] sb] (ρ.t 44))) blk off du wr4) ∧ Hid (shiftUp lt b ju du = shiftUp lt b (kx + 1) dj))
                        case atStart => exact ⟨kx + 1, dj, by go_num, Nat.le_refl _, by omega, Nat.le_refl _, hsj, hW2, rfl⟩
                        case round =>
                          clear hW2 hl2 c0 c1 hW
                          obtain ⟨ju, du, rfl, hkj, hjb, hg4, hsu, hW, HU⟩ := hrel
                          obtain ⟨c0, c1⟩ := swk_box hbl hW.out
                          by_cases hjb' : ju < b
                          · have hjz : (ju : Int) < (b : Int) := by omega
                            have HUm := Lib.hid (show ((ju - 1 : Nat) : Int) = (ju : Int) - 1 by omega)
                            cases hlv3 : lt du[ju]! du[ju - 1]! with
                            | true =>
                              have hl3 := HS.out.ask hW.out hsu ju (ju - 1) (by omega) (by omega) rfl HUm.out hlv3
                              have hE : Hid (shiftUp lt b (ju + 1) (swp du ju (ju - 1)) = shiftUp lt b (kx + 1) dj) := by show _ = _; rw [← HU.out, shiftUp_go lt b ju du hjb' hlv3]
                              clear hlv3
                              go_wp2_with (go_at_fn g; refine hl3.mono ?_; rintro e w' ⟨rfl, hg⟩; have hW2 := Lib.hid (swk_grown hW.out hg); obtain ⟨W4, he, hW4⟩ := HS.out.exch hW2.out hsu ju (ju - 1) (by omega) (by omega) rfl HUm.out; obtain ⟨c2, c3⟩ := swk_box hbl hW2.out; replace hW4 := Lib.hid hW4; clear hg)
                              go_roundg (b - (ju + 1))
                              case measure => omega
                              case rel => exact ⟨ju + 1, swp du ju (ju - 1), by go_num, by omega, by omega, Nat.le_refl _, by rw [size_swp]; exact hsu, hW4, hE⟩
                            | false =>
                              have hl3 := HS.out.ask hW.out hsu ju (ju - 1) (by omega) (by omega) rfl HUm.out hlv3
                              have hE : Hid (partialIns lt a b (5 - (s + 1)) kx du = partialIns lt a b 5 (a + 1) d) := by
                                show _ = _
                                rw [← HO.out, pi_go lt a b s i kx dk hs HK.out (by omega) h50, HD.out, show fixUp lt b kx dj = du from by unfold fixUp; rw [if_pos hbk, ← HU.out, shiftUp_stop lt b ju du (Or.inr hlv3)]]
                              clear hlv3
                              go_wp2_with (go_at_fn g; refine hl3.mono ?_; rintro e w' ⟨rfl, hg⟩; have hW2 := Lib.hid (swk_grown hW.out hg); clear hg)
                              go_roundg (5 - (s + 1))
                              case measure => omega
                              case rel => exact ⟨kx, s + 1, du, rfl, by go_num, by omega, Nat.le_refl _, by omega, by omega, hsu, hW2, hE⟩
                          · have hjz : ¬ (ju : Int) < (b : Int) := by omega
                            have hE : Hid (partialIns lt a b (5 - (s + 1)) kx du = partialIns lt a b 5 (a + 1) d) := by
                              show _ = _
                              rw [← HO.out, pi_go lt a b s i kx dk hs HK.out (by omega) h50, HD.out, show fixUp lt b kx dj = du from by unfold fixUp; rw [if_pos hbk, ← HU.out, shiftUp_stop lt b ju du (Or.inl hjb')]]
                            go_wp2
                            go_roundg (5 - (s + 1))
                            case measure => omega
                            case rel => exact ⟨kx, s + 1, du, rfl, by go_num, by omega, Nat.le_refl _, by omega, by omega, hsu, hW, hE⟩
                      · have hbkz : ¬ (2 : Int) ≤ (b : Int) - (kx : Int) := by omega
                        have hE : Hid (partialIns lt a b (5 - (s + 1)) kx dj = partialIns lt a b 5 (a + 1) d) := by
                          show _ = _
                          rw [← HO.out, pi_go lt a b s i kx dk hs HK.out (by omega) h50, HD.out, show fixUp lt b kx dj = dj from by unfold fixUp; rw [if_neg hbk]]
                        go_wp2_with (go_at_fn g; refine hl2.mono ?_; rintro e w' ⟨rfl, hg⟩; have hW2 := Lib.hid (swk_grown hW.out hg); clear hg)
                        go_roundg (5 - (s + 1))
                        case measure => omega
                        case rel => exact ⟨kx, s + 1, dj, rfl, by go_num, by omega, Nat.le_refl _, by omega, by omega, hsj, hW2, hE⟩
                  · have hj1z : ¬ (1 : Int) ≤ (j : Int) := by omega
                    have HD : Hid (fixDown lt a kx (swp dk kx (kx - 1)) = dj) := by show _ = _; unfold fixDown; rw [if_pos hka, ← HDn.out, shiftDown_stop lt j dj (Or.inl (by omega))]
                    by_cases hbk : b - kx ≥ 2
                    · have hbkz : (2 : Int) ≤ (b : Int) - (kx : Int) := by omega
                      go_wp2
                      go_loopg [10] (b - (kx + 1)) (fun g4 vj wr4 => ∃ (ju : Nat) (du : Array α), vj = .int .i64 ju ∧ kx + 1 ≤ ju ∧ ju ≤ b ∧ b - ju ≤ g4 ∧ du.size = d.size ∧ Hid (SWK enc k (w.alloc (.cells #[.func (.func g) #[] lb, .func (.func sf) #[] sb] (ρ.t 44))) blk off du wr4) ∧ Hid (shiftUp lt b ju du = shiftUp lt b (kx + 1) dj))
                      case atStart => exact ⟨kx + 1, dj, by go_num, Nat.le_refl _, by omega, Nat.le_refl _, hsj, hW, rfl⟩
                      case round =>
                        clear hW c0 c1
                        obtain ⟨ju, du, rfl, hkj, hjb, hg4, hsu, hW, HU⟩ := hrel
                        obtain ⟨c0, c1⟩ := swk_box hbl hW.out
                        by_cases hjb' : ju < b
                        · have hjz : (ju : Int) < (b : Int) := by omega
                          have HUm := Lib.hid (show ((ju - 1 : Nat) : Int) = (ju : Int) - 1 by omega)
                          cases hlv3 : lt du[ju]! du[ju - 1]! with
                          | true =>
                            have hl3 := HS.out.ask hW.out hsu ju (ju - 1) (by omega) (by omega) rfl HUm.out hlv3
                            have hE : Hid (shiftUp lt b (ju + 1) (swp du ju (ju - 1)) = shiftUp lt b (kx + 1) dj) := by show _ = _; rw [← HU.out, shiftUp_go lt b ju du hjb' hlv3]
                            clear hlv3
                            go_wp2_with (go_at_fn g; refine hl3.mono ?_; rintro e w' ⟨rfl, hg⟩; have hW2 := Lib.hid (swk_grown hW.out hg); obtain ⟨W4, he, hW4⟩ := HS.out.exch hW2.out hsu ju (ju - 1) (by omega) (by omega) rfl HUm.out; obtain ⟨c2, c3⟩ := swk_box hbl hW2.out; replace hW4 := Lib.hid hW4; clear hg)
                            go_roundg (b - (ju + 1))
                            case measure => omega
                            case rel => exact ⟨ju + 1, swp du ju (ju - 1), by go_num, by omega, by omega, Nat.le_refl _, by rw [size_swp]; exact hsu, hW4, hE⟩
                          | false =>
                            have hl3 := HS.out.ask hW.out hsu ju (ju - 1) (by omega) (by omega) rfl HUm.out hlv3
                            have hE : Hid (partialIns lt a b (5 - (s + 1)) kx du = partialIns lt a b 5 (a + 1) d) := by
                              show _ = _
                              rw [← HO.out, pi_go lt a b s i kx dk hs HK.out (by omega) h50, HD.out, show fixUp lt b kx dj = du from by unfold fixUp; rw [if_pos hbk, ← HU.out, shiftUp_stop lt b ju du (Or.inr hlv3)]]
                            clear hlv3
                            go_wp2_with (go_at_fn g; refine hl3.mono ?_; rintro e w' ⟨rfl, hg⟩; have hW2 := Lib.hid (swk_grown hW.out hg); clear hg)
                            go_roundg (5 - (s + 1))
                            case measure => omega
                            case rel => exact ⟨kx, s + 1, du, rfl, by go_num, by omega, Nat.le_refl _, by omega, by omega, hsu, hW2, hE⟩
                        · have hjz : ¬ (ju : Int) < (b : Int) := by omega
                          have hE : Hid (partialIns lt a b (5 - (s + 1)) kx du = partialIns lt a b 5 (a + 1) d) := by
                            show _ = _
                            rw [← HO.out, pi_go lt a b s i kx dk hs HK.out (by omega) h50, HD.out, show fixUp lt b kx dj = du from by unfold fixUp; rw [if_pos hbk, ← HU.out, shiftUp_stop lt b ju du (Or.inl hjb')]]
                          go_wp2
                          go_roundg (5 - (s + 1))
                          case measure => omega
                          case rel => exact ⟨kx, s + 1, du, rfl, by go_num, by omega, Nat.le_refl _, by omega, by omega, hsu, hW, hE⟩
                    · have hbkz : ¬ (2 : Int) ≤ (b : Int) - (kx : Int) := by omega
                      have hE : Hid (partialIns lt a b (5 - (s + 1)) kx dj = partialIns lt a b 5 (a + 1) d) := by
                        show _ = _
                        rw [← HO.out, pi_go lt a b s i kx dk hs HK.out (by omega) h50, HD.out, show fixUp lt b kx dj = dj from by unfold fixUp; rw [if_neg hbk]]
                      go_wp2
                      go_roundg (5 - (s + 1))
                      case measure => omega
                      case rel => exact ⟨kx, s + 1, dj, rfl, by go_num, by omega, Nat.le_refl _, by omega, by omega, hsj, hW, hE⟩
              · have hkaz : ¬ (2 : Int) ≤ (kx : Int) - (a : Int) := by omega
                have HD : Hid (fixDown lt a kx (swp dk kx (kx - 1)) = (swp dk kx (kx - 1))) := by show _ = _; unfold fixDown; rw [if_neg hka]
                have hsj := hX1.out
                by_cases hbk : b - kx ≥ 2
                · have hbkz : (2 : Int) ≤ (b : Int) - (kx : Int) := by omega
                  go_wp2_with (go_at_fn g; refine hl.mono ?_; rintro e w' ⟨rfl, hg⟩; have hW2 := Lib.hid (swk_grown hW.out hg); obtain ⟨W4, he, hW4⟩ := HS.out.exch hW2.out hsk kx (kx - 1) (by omega) (by omega) rfl HKm.out; obtain ⟨c2, c3⟩ := swk_box hbl hW2.out; replace hW4 := Lib.hid hW4; clear hg)
                  go_loopg [10] (b - (kx + 1)) (fun g4 vj wr4 => ∃ (ju : Nat) (du : Array α), vj = .int .i64 ju ∧ kx + 1 ≤ ju ∧ ju ≤ b ∧ b - ju ≤ g4 ∧ du.size = d.size ∧ Hid (SWK enc k (w.alloc (.cells #[.func (.func g) #[] lb, .func (.func sf) #[] sb] (ρ.t 44))) blk off du wr4) ∧ Hid (shiftUp lt b ju du = shiftUp lt b (kx + 1) (swp dk kx (kx - 1))))
                  case atStart => exact ⟨kx + 1, (swp dk kx (kx - 1)), by go_num, Nat.le_refl _, by omega, Nat.le_refl _, hsj, hW4, rfl⟩
                  case round =>
                    clear he c2 c3 hW2 hW4 c0 c1 hW hl
                    obtain ⟨ju, du, rfl, hkj, hjb, hg4, hsu, hW, HU⟩ := hrel
                    obtain ⟨c0, c1⟩ := swk_box hbl hW.out
                    by_cases hjb' : ju < b
                    · have hjz : (ju : Int) < (b : Int) := by omega
                      have HUm := Lib.hid (show ((ju - 1 : Nat) : Int) = (ju : Int) - 1 by omega)
                      cases hlv3 : lt du[ju]! du[ju - 1]! with
                      | true =>
                        have hl3 := HS.out.ask hW.out hsu ju (ju - 1) (by omega) (by omega) rfl HUm.out hlv3
                        have hE : Hid (shiftUp lt b (ju + 1) (swp du ju (ju - 1)) = shiftUp lt b (kx + 1) (swp dk kx (kx - 1))) := by show _ = _; rw [← HU.out, shiftUp_go lt b ju du hjb' hlv3]
                        clear hlv3
                        go_wp2_with (go_at_fn g; refine hl3.mono ?_; rintro e w' ⟨rfl, hg⟩; have hW2 := Lib.hid (swk_grown hW.out hg); obtain ⟨W4, he, hW4⟩ := HS.out.exch hW2.out hsu ju (ju - 1) (by omega) (by omega) rfl HUm.out; obtain ⟨c2, c3⟩ := swk_box hbl hW2.out; replace hW4 := Lib.hid hW4; clear hg)
                        go_roundg (b - (ju + 1))
                        case measure => omega
                        case rel => exact ⟨ju + 1, swp du ju (ju - 1), by go_num, by omega, by omega, Nat.le_refl _, by rw [size_swp]; exact hsu, hW4, hE⟩
                      | false =>
                        have hl3 := HS.out.ask hW.out hsu ju (ju - 1) (by omega) (by omega) rfl HUm.out hlv3
                        have hE : Hid (partialIns lt a b (5 - (s + 1)) kx du = partialIns lt a b 5 (a + 1) d) := by
                          show _ = _
                          rw [← HO.out, pi_go lt a b s i kx dk hs HK.out (by omega) h50, HD.out, show fixUp lt b kx (swp dk kx (kx - 1)) = du from by unfold fixUp; rw [if_pos hbk, ← HU.out, shiftUp_stop lt b ju du (Or.inr hlv3)]]
                        clear hlv3
                        go_wp2_with (go_at_fn g; refine hl3.mono ?_; rintro e w' ⟨rfl, hg⟩; have hW2 := Lib.hid (swk_grown hW.out hg); clear hg)
                        go_roundg (5 - (s + 1))
                        case measure => omega
                        case rel => exact ⟨kx, s + 1, du, rfl, by go_num, by omega, Nat.le_refl _, by omega, by omega, hsu, hW2, hE⟩
                    · have hjz : ¬ (ju : Int) < (b : Int) := by omega
                      have hE : Hid (partialIns lt a b (5 - (s + 1)) kx du = partialIns lt a b 5 (a + 1) d) := by
                        show _ = _
                        rw [← HO.out, pi_go lt a b s i kx dk hs HK.out (by omega) h50, HD.out, show fixUp lt b kx (swp dk kx (kx - 1)) = du from by unfold fixUp; rw [if_pos hbk, ← HU.out, shiftUp_stop lt b ju du (Or.inl hjb')]]
                      go_wp2
                      go_roundg (5 - (s + 1))
                      case measure => omega
                      case rel => exact ⟨kx, s + 1, du, rfl, by go_num, by omega, Nat.le_refl _, by omega, by omega, hsu, hW, hE⟩
                · exfalso; omega
        · obtain rfl : kx = b := by omega
          have hkz : ¬ (kx : Int) < (kx : Int) := by omega
          have hv : Hid (Sort.partialInsertionSort lt d a kx = (dk, true)) := by
            show _ = _
            unfold Sort.partialInsertionSort
            rw [← HO.out, pi_true lt a kx s i dk hs (by rw [← HSc.out, scanSorted_stop lt dk kx kx (Or.inl (by omega))])]
          go_wp2
          go_ret
          rw [hv.out]
          exact ⟨rfl, swk_alloc hW.out hbl⟩
    · obtain rfl : s = 5 := by omega
      have hv : Hid (Sort.partialInsertionSort lt d a b = (dk, false)) := by
        show _ = _
        unfold Sort.partialInsertionSort
        rw [← HO.out, pi_end]
      go_wp2
      go_ret
      rw [hv.out]
      exact ⟨rfl, swk_alloc hWo.out hbl⟩
end
end Go.Proofs.YtpfpjcfacbfjaaaGreatDoor
