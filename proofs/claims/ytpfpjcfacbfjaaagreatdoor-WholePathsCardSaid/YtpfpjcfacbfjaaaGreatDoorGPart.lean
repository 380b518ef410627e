/-
  sort.partition_func with a comparison that may lay blocks.
-/
import Derived.Test.YtpfpjcfacbfjaaaGreatDoorGKit
import Derived.Sort.WalkC4
namespace Go.Proofs.YtpfpjcfacbfjaaaGreatDoor
open Go.Shelf Go.RowKit Go.Lib Go.Sort
variable {P : Program} {ρ : Ren} {α : Type} [Inhabited α]
section
variable {g : Nat} {lb : Array Value} {sf : Nat} {sb : Array Value} {enc : α → List Value} {k : Nat} {lt : α → α → Bool} {blk off : Nat} {d : Array α} {w : World}
set_option maxHeartbeats 12800000 in
set_option maxRecDepth 100000 in
theorem part_g (L : LaysGg.n33 P ρ) (S : SortIn P g lb sf sb enc k lt blk off d w) (a b pivot : Nat) (hap : a ≤ pivot) (hpb : pivot < b) (hb : b ≤ d.size) :
    Calls P (ρ.f 33) #[.agg #[.func (.func g) #[] lb, .func (.func sf) #[] sb], .int .i64 a, .int .i64 b, .int .i64 pivot] w fun e w' =>
      e = .returned (.tuple #[.int .i64 (Sort.partition lt d a b pivot).1, .bool (Sort.partition lt d a b pivot).2.1]) ∧ SWK enc k w blk off (Sort.partition lt d a b pivot).2.2 w' := by
  have mixed := L.mixed; have t0 := L.t0; have a0 := L.a0; have z0 := L.z0; have v0 := L.v0; have t3 := L.t3; have a3 := L.a3; have z3 := L.z3; have v3 := L.v3; have t4 := L.t4; have a4 := L.a4; have z4 := L.z4; have v4 := L.v4; have t26 := L.t26; have a26 := L.a26; have z26 := L.z26; have v26 := L.v26; have t37 := L.t37; have a37 := L.a37; have z37 := L.z37; have v37 := L.v37; have t44 := L.t44; have a44 := L.a44; have z44 := L.z44; have v44 := L.v44
  have u44 := run_underlying L.t44
  have eg := S.eg
  have hsz := S.sz
  have hbl := S.blk_lt
  have S1 := S.boxed (.cells #[.func (.func g) #[] lb, .func (.func sf) #[] sb] (ρ.t 44))
  have st := Lib.hid S1.start
  have HS := Lib.hid S1
  clear S S1
  obtain ⟨W0, he0, hW0⟩ := HS.out.exch st.out rfl a pivot (by omega) (by omega) rfl rfl
  obtain ⟨i0, hi⟩ : ∃ i0 : Nat, i0 = a + 1 := ⟨_, rfl⟩
  obtain ⟨j0, hj⟩ : ∃ j0 : Nat, j0 = b - 1 := ⟨_, rfl⟩
  obtain ⟨d0, hd⟩ : ∃ d0 : Array α, d0 = Sort.swp d a pivot := ⟨_, rfl⟩
  have hs0 : d0.size = d.size := by rw [hd]; exact size_swp _ _ _
  have hai0 : a < i0 := by omega
  have hij0 : i0 ≤ j0 + 1 := by omega
  have hjb0 : j0 < b := by omega
  rw [← hd] at hW0
  replace hW0 := Lib.hid hW0
  have Hi := Lib.hid hi
  have Hj := Lib.hid hj
  have Hd := Lib.hid hd
  clear st hi hj hd
  go_enter L.f33, BodyGg.n33_ntmps ρ
  go_wp2
  rw [show ((a : Int) + 1) = (i0 : Int) by have := Hi.out; omega, show ((b : Int) - 1) = (j0 : Int) by have := Hj.out; omega]
  clear he0
  go_loopg [10] (j0 + 1 - i0) (fun gn vi w1 => ∃ (p0 : Nat), vi = .int .i64 p0 ∧ i0 ≤ p0 ∧ p0 ≤ j0 + 1 ∧ j0 + 1 - p0 ≤ gn ∧ Hid (SWK enc k (w.alloc (.cells #[.func (.func g) #[] lb, .func (.func sf) #[] sb] (ρ.t 44))) blk off d0 w1) ∧
      Hid (Sort.scanUp (fun x => lt x d0[a]!) d0 j0 p0 = Sort.scanUp (fun x => lt x d0[a]!) d0 j0 i0))
  case atStart => exact ⟨i0, rfl, Nat.le_refl _, hij0, Nat.le_refl _, hW0, rfl⟩
  case round =>
    clear hW0
    obtain ⟨p0, rfl, hii, hij', hgn, hW, hsc⟩ := hrel
    obtain ⟨c0, c1⟩ := swk_box hbl hW.out
    by_cases hle : p0 ≤ j0
    · cases hlv : lt d0[p0]! d0[a]! with
      | true =>
        have hl := HS.out.ask hW.out hs0 p0 a (by omega) (by omega) rfl rfl hlv
        have hsc' : Hid (Sort.scanUp (fun x => lt x d0[a]!) d0 j0 (p0 + 1) = Sort.scanUp (fun x => lt x d0[a]!) d0 j0 i0) := (scanUp_go (fun x => lt x d0[a]!) d0 j0 p0 hle hlv).symm.trans hsc.out
        clear hlv
        go_wp2_with (go_at_fn g; refine hl.mono ?_; rintro e w' ⟨rfl, hg⟩; have hW2 := Lib.hid (swk_grown hW.out hg); clear hg)
        go_roundg (j0 + 1 - (p0 + 1))
        case measure => omega
        case rel => exact ⟨p0 + 1, by go_num, by omega, by omega, Nat.le_refl _, hW2, hsc'⟩
      | false =>
        have hl := HS.out.ask hW.out hs0 p0 a (by omega) (by omega) rfl rfl hlv
        have UP1 : Hid (p0 = Sort.scanUp (fun x => lt x d0[a]!) d0 j0 i0) := (scanUp_end (fun x => lt x d0[a]!) d0 j0 p0 (Or.inr hlv)).symm.trans hsc.out
        clear hlv hsc
        go_wp2_with (go_at_fn g; refine hl.mono ?_; rintro e w' ⟨rfl, hg⟩; have hW2 := Lib.hid (swk_grown hW.out hg); clear hg)
        go_loopg [11] j0 (fun gn vj w2 => ∃ (q0 : Nat), vj = .int .i64 q0 ∧ q0 ≤ j0 ∧ p0 ≤ q0 + 1 ∧ q0 ≤ gn ∧ Hid (SWK enc k (w.alloc (.cells #[.func (.func g) #[] lb, .func (.func sf) #[] sb] (ρ.t 44))) blk off d0 w2) ∧
            Hid (Sort.scanDown (fun x => !lt x d0[a]!) d0 p0 q0 = Sort.scanDown (fun x => !lt x d0[a]!) d0 p0 j0))
        case atStart => exact ⟨j0, rfl, Nat.le_refl _, hij', Nat.le_refl _, hW2, rfl⟩
        case round =>
          clear c0 c1 hW2
          obtain ⟨q0, rfl, hjj, hij2, hgn2, hW, hsd⟩ := hrel
          obtain ⟨c0, c1⟩ := swk_box hbl hW.out
          by_cases hle2 : p0 ≤ q0
          · cases hlv2 : lt d0[q0]! d0[a]! with
            | false =>
              have hl := HS.out.ask hW.out hs0 q0 a (by omega) (by omega) rfl rfl hlv2
              have hsd' : Hid (Sort.scanDown (fun x => !lt x d0[a]!) d0 p0 (q0 - 1) = Sort.scanDown (fun x => !lt x d0[a]!) d0 p0 j0) := (scanDown_go (fun x => !lt x d0[a]!) d0 p0 q0 hle2 (by omega) (by simp [hlv2])).symm.trans hsd.out
              clear hlv2
              go_wp2_with (go_at_fn g; refine hl.mono ?_; rintro e w' ⟨rfl, hg⟩; have hW3 := Lib.hid (swk_grown hW.out hg); clear hg)
              go_roundg (q0 - 1)
              case measure => omega
              case rel => exact ⟨q0 - 1, by go_num, by omega, by omega, Nat.le_refl _, hW3, hsd'⟩
            | true =>
              have hl := HS.out.ask hW.out hs0 q0 a (by omega) (by omega) rfl rfl hlv2
              have DN1 : Hid (q0 = Sort.scanDown (fun x => !lt x d0[a]!) d0 p0 j0) := (scanDown_end (fun x => !lt x d0[a]!) d0 p0 q0 (Or.inr (by simp [hlv2]))).symm.trans hsd.out
              have hlt3 := part_scans_lt lt a i0 j0 d0 (by omega) UP1.out DN1.out hle2
              have hqz : decide (q0 < p0) = false := decide_eq_false (by omega)
              have PF : Hid (Sort.partition lt d a b pivot = ((Sort.partLoop lt a (p0 + 1) (q0 - 1) (swp d0 p0 q0)).1, false, swp (Sort.partLoop lt a (p0 + 1) (q0 - 1) (swp d0 p0 q0)).2 (Sort.partLoop lt a (p0 + 1) (q0 - 1) (swp d0 p0 q0)).1 a)) :=
                part_first_go lt d a b pivot Hi.out Hj.out Hd.out UP1.out DN1.out (by omega)
              clear hlv2 hsd
              go_wp2_with (go_at_fn g; refine hl.mono ?_; rintro e w' ⟨rfl, hg⟩; have hW3 := Lib.hid (swk_grown hW.out hg); obtain ⟨W4, he, hW4⟩ := HS.out.exch hW3.out hs0 p0 q0 (by omega) (by omega) rfl rfl; obtain ⟨c2, c3⟩ := swk_box hbl hW3.out; replace hW4 := Lib.hid hW4; clear hg)
              go_loopg [10, 11] (b - a) (fun gm vi vj wr => ∃ (i j : Nat) (dk : Array α), vi = .int .i64 i ∧ vj = .int .i64 j ∧ a < i ∧ i ≤ j + 1 ∧ j < b ∧ j + 1 - i ≤ gm ∧ dk.size = d.size ∧ Hid (SWK enc k (w.alloc (.cells #[.func (.func g) #[] lb, .func (.func sf) #[] sb] (ρ.t 44))) blk off dk wr) ∧
                  Hid (Sort.partLoop lt a i j dk = Sort.partLoop lt a (p0 + 1) (q0 - 1) (Sort.swp d0 p0 q0)))
              case atStart => exact ⟨p0 + 1, q0 - 1, Sort.swp d0 p0 q0, by go_num, by go_num, by omega, by omega, by omega, by omega, by rw [size_swp]; exact hs0, hW4, rfl⟩
              case round =>
                clear hl he c0 c1 c2 c3 hW hW3 hW4 UP1 DN1
                obtain ⟨i, j, dk, rfl, rfl, hai, hij, hjb, hgm, hs, hWo, AE⟩ := hrel
                go_wp2
                go_loopg [10] (j + 1 - i) (fun gn vi w1 => ∃ (i' : Nat), vi = .int .i64 i' ∧ i ≤ i' ∧ i' ≤ j + 1 ∧ j + 1 - i' ≤ gn ∧ Hid (SWK enc k (w.alloc (.cells #[.func (.func g) #[] lb, .func (.func sf) #[] sb] (ρ.t 44))) blk off dk w1) ∧
                    Hid (Sort.scanUp (fun x => lt x dk[a]!) dk j i' = Sort.scanUp (fun x => lt x dk[a]!) dk j i))
                case atStart => exact ⟨i, rfl, Nat.le_refl _, hij, Nat.le_refl _, hWo, rfl⟩
                case round =>
                  clear hWo
                  obtain ⟨i', rfl, hii, hij', hgn, hW, hsc⟩ := hrel
                  obtain ⟨c0, c1⟩ := swk_box hbl hW.out
                  by_cases hle : i' ≤ j
                  · cases hlv : lt dk[i']! dk[a]! with
                    | true =>
                      have hl := HS.out.ask hW.out hs i' a (by omega) (by omega) rfl rfl hlv
                      have hsc' : Hid (Sort.scanUp (fun x => lt x dk[a]!) dk j (i' + 1) = Sort.scanUp (fun x => lt x dk[a]!) dk j i) := (scanUp_go (fun x => lt x dk[a]!) dk j i' hle hlv).symm.trans hsc.out
                      clear hlv
                      go_wp2_with (go_at_fn g; refine hl.mono ?_; rintro e w' ⟨rfl, hg⟩; have hW2 := Lib.hid (swk_grown hW.out hg); clear hg)
                      go_roundg (j + 1 - (i' + 1))
                      case measure => omega
                      case rel => exact ⟨i' + 1, by go_num, by omega, by omega, Nat.le_refl _, hW2, hsc'⟩
                    | false =>
                      have hl := HS.out.ask hW.out hs i' a (by omega) (by omega) rfl rfl hlv
                      have UP2 : Hid (i' = Sort.scanUp (fun x => lt x dk[a]!) dk j i) := (scanUp_end (fun x => lt x dk[a]!) dk j i' (Or.inr hlv)).symm.trans hsc.out
                      clear hlv hsc
                      go_wp2_with (go_at_fn g; refine hl.mono ?_; rintro e w' ⟨rfl, hg⟩; have hW2 := Lib.hid (swk_grown hW.out hg); clear hg)
                      go_loopg [11] j (fun gn vj w2 => ∃ (j' : Nat), vj = .int .i64 j' ∧ j' ≤ j ∧ i' ≤ j' + 1 ∧ j' ≤ gn ∧ Hid (SWK enc k (w.alloc (.cells #[.func (.func g) #[] lb, .func (.func sf) #[] sb] (ρ.t 44))) blk off dk w2) ∧
                          Hid (Sort.scanDown (fun x => !lt x dk[a]!) dk i' j' = Sort.scanDown (fun x => !lt x dk[a]!) dk i' j))
                      case atStart => exact ⟨j, rfl, Nat.le_refl _, hij', Nat.le_refl _, hW2, rfl⟩
                      case round =>
                        clear c0 c1 hW2
                        obtain ⟨j', rfl, hjj, hij2, hgn2, hW, hsd⟩ := hrel
                        obtain ⟨c0, c1⟩ := swk_box hbl hW.out
                        by_cases hle2 : i' ≤ j'
                        · cases hlv2 : lt dk[j']! dk[a]! with
                          | false =>
                            have hl := HS.out.ask hW.out hs j' a (by omega) (by omega) rfl rfl hlv2
                            have hsd' : Hid (Sort.scanDown (fun x => !lt x dk[a]!) dk i' (j' - 1) = Sort.scanDown (fun x => !lt x dk[a]!) dk i' j) := (scanDown_go (fun x => !lt x dk[a]!) dk i' j' hle2 (by omega) (by simp [hlv2])).symm.trans hsd.out
                            clear hlv2
                            go_wp2_with (go_at_fn g; refine hl.mono ?_; rintro e w' ⟨rfl, hg⟩; have hW3 := Lib.hid (swk_grown hW.out hg); clear hg)
                            go_roundg (j' - 1)
                            case measure => omega
                            case rel => exact ⟨j' - 1, by go_num, by omega, by omega, Nat.le_refl _, hW3, hsd'⟩
                          | true =>
                            have hl := HS.out.ask hW.out hs j' a (by omega) (by omega) rfl rfl hlv2
                            have DN2 : Hid (j' = Sort.scanDown (fun x => !lt x dk[a]!) dk i' j) := (scanDown_end (fun x => !lt x dk[a]!) dk i' j' (Or.inr (by simp [hlv2]))).symm.trans hsd.out
                            have hlt3 := part_scans_lt lt a i j dk (by omega) UP2.out DN2.out hle2
                            have hqz : decide (j' < i') = false := decide_eq_false (by omega)
                            have hE : Hid (Sort.partLoop lt a (i' + 1) (j' - 1) (Sort.swp dk i' j') = Sort.partLoop lt a (p0 + 1) (q0 - 1) (Sort.swp d0 p0 q0)) := by
                              show _ = _
                              rw [← AE.out]; exact (part_go lt a i j dk UP2.out DN2.out (by omega)).symm
                            clear hlv2 hsd
                            go_wp2_with (go_at_fn g; refine hl.mono ?_; rintro e w' ⟨rfl, hg⟩; have hW3 := Lib.hid (swk_grown hW.out hg); obtain ⟨W4, he, hW4⟩ := HS.out.exch hW3.out hs i' j' (by omega) (by omega) rfl rfl; obtain ⟨c2, c3⟩ := swk_box hbl hW3.out; replace hW4 := Lib.hid hW4; clear hg)
                            go_roundg (j' - 1 + 1 - (i' + 1))
                            case measure => omega
                            case rel => exact ⟨i' + 1, j' - 1, Sort.swp dk i' j', by go_num, by go_num, by omega, by omega, by omega, Nat.le_refl _, by rw [size_swp]; exact hs, hW4, hE⟩
                        · have DN2 : Hid (j' = Sort.scanDown (fun x => !lt x dk[a]!) dk i' j) := (scanDown_end (fun x => !lt x dk[a]!) dk i' j' (Or.inl hle2)).symm.trans hsd.out
                          have hres : Hid (Sort.partition lt d a b pivot = (j', false, swp dk j' a)) := by
                            show _ = _
                            rw [PF.out, ← AE.out, part_break lt a i j dk UP2.out DN2.out (by omega)]
                          obtain ⟨W4, he, hW4⟩ := HS.out.exch hW.out hs j' a (by omega) (by omega) rfl rfl
                          replace hW4 := Lib.hid hW4
                          clear hsd
                          go_wp2
                          go_ret2
                          rw [hres.out]
                          exact ⟨rfl, swk_alloc hW4.out hbl⟩
                  · have UP2 : Hid (i' = Sort.scanUp (fun x => lt x dk[a]!) dk j i) := (scanUp_end (fun x => lt x dk[a]!) dk j i' (Or.inl hle)).symm.trans hsc.out
                    clear hsc
                    go_wp2
                    go_loopg [11] j (fun gn vj w2 => ∃ (j' : Nat), vj = .int .i64 j' ∧ j' ≤ j ∧ i' ≤ j' + 1 ∧ j' ≤ gn ∧ Hid (SWK enc k (w.alloc (.cells #[.func (.func g) #[] lb, .func (.func sf) #[] sb] (ρ.t 44))) blk off dk w2) ∧
                        Hid (Sort.scanDown (fun x => !lt x dk[a]!) dk i' j' = Sort.scanDown (fun x => !lt x dk[a]!) dk i' j))
                    case atStart => exact ⟨j, rfl, Nat.le_refl _, hij', Nat.le_refl _, hW, rfl⟩
                    case round =>
                      clear c0 c1 hW
                      obtain ⟨j', rfl, hjj, hij2, hgn2, hW, hsd⟩ := hrel
                      obtain ⟨c0, c1⟩ := swk_box hbl hW.out
                      by_cases hle2 : i' ≤ j'
                      · exfalso; omega
                      · have DN2 : Hid (j' = Sort.scanDown (fun x => !lt x dk[a]!) dk i' j) := (scanDown_end (fun x => !lt x dk[a]!) dk i' j' (Or.inl hle2)).symm.trans hsd.out
                        have hres : Hid (Sort.partition lt d a b pivot = (j', false, swp dk j' a)) := by
                          show _ = _
                          rw [PF.out, ← AE.out, part_break lt a i j dk UP2.out DN2.out (by omega)]
                        obtain ⟨W4, he, hW4⟩ := HS.out.exch hW.out hs j' a (by omega) (by omega) rfl rfl
                        replace hW4 := Lib.hid hW4
                        clear hsd
                        go_wp2
                        go_ret2
                        rw [hres.out]
                        exact ⟨rfl, swk_alloc hW4.out hbl⟩
          · have DN1 : Hid (q0 = Sort.scanDown (fun x => !lt x d0[a]!) d0 p0 j0) := (scanDown_end (fun x => !lt x d0[a]!) d0 p0 q0 (Or.inl hle2)).symm.trans hsd.out
            have hres : Hid (Sort.partition lt d a b pivot = (q0, true, swp d0 q0 a)) := part_first_break lt d a b pivot Hi.out Hj.out Hd.out UP1.out DN1.out (by omega)
            obtain ⟨W4, he, hW4⟩ := HS.out.exch hW.out hs0 q0 a (by omega) (by omega) rfl rfl
            replace hW4 := Lib.hid hW4
            clear hsd
            go_wp2
            go_ret2
            rw [hres.out]
            exact ⟨rfl, swk_alloc hW4.out hbl⟩
    · have UP1 : Hid (p0 = Sort.scanUp (fun x => lt x d0[a]!) d0 j0 i0) := (scanUp_end (fun x => lt x d0[a]!) d0 j0 p0 (Or.inl hle)).symm.trans hsc.out
      clear hsc
      go_wp2
      go_loopg [11] j0 (fun gn vj w2 => ∃ (q0 : Nat), vj = .int .i64 q0 ∧ q0 ≤ j0 ∧ p0 ≤ q0 + 1 ∧ q0 ≤ gn ∧ Hid (SWK enc k (w.alloc (.cells #[.func (.func g) #[] lb, .func (.func sf) #[] sb] (ρ.t 44))) blk off d0 w2) ∧
          Hid (Sort.scanDown (fun x => !lt x d0[a]!) d0 p0 q0 = Sort.scanDown (fun x => !lt x d0[a]!) d0 p0 j0))
      case atStart => exact ⟨j0, rfl, Nat.le_refl _, hij', Nat.le_refl _, hW, rfl⟩
      case round =>
        clear c0 c1 hW
        obtain ⟨q0, rfl, hjj, hij2, hgn2, hW, hsd⟩ := hrel
        obtain ⟨c0, c1⟩ := swk_box hbl hW.out
        by_cases hle2 : p0 ≤ q0
        · exfalso; omega
        · have DN1 : Hid (q0 = Sort.scanDown (fun x => !lt x d0[a]!) d0 p0 j0) := (scanDown_end (fun x => !lt x d0[a]!) d0 p0 q0 (Or.inl hle2)).symm.trans hsd.out
          have hres : Hid (Sort.partition lt d a b pivot = (q0, true, swp d0 q0 a)) := part_first_break lt d a b pivot Hi.out Hj.out Hd.out UP1.out DN1.out (by omega)
          obtain ⟨W4, he, hW4⟩ := HS.out.exch hW.out hs0 q0 a (by omega) (by omega) rfl rfl
          replace hW4 := Lib.hid hW4
          clear hsd
          go_wp2
          go_ret2
          rw [hres.out]
          exact ⟨rfl, swk_alloc hW4.out hbl⟩
end
end Go.Proofs.YtpfpjcfacbfjaaaGreatDoor
