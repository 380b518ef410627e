/-
  sort.partitionEqual_func with a comparison that may lay blocks.
-/
import Derived.Test.YtpfpjcfacbfjaaaGreatDoorGKit
import Derived.Sort.WalkC4
namespace Go.Proofs.YtpfpjcfacbfjaaaGreatDoor
open Go.Shelf Go.RowKit Go.Lib Go.Sort
variable {P : Program} {ρ : Ren} {α : Type} [Inhabited α]
section
variable {g : Nat} {lb : Array Value} {sf : Nat} {sb : Array Value} {enc : α → List Value} {k : Nat} {lt : α → α → Bool} {blk off : Nat} {d : Array α} {w : World}
set_option maxHeartbeats 6400000 in
set_option maxRecDepth 100000 in
theorem parteq_g (L : LaysGg.n32 P ρ) (S : SortIn P g lb sf sb enc k lt blk off d w) (a b pivot : Nat) (hap : a ≤ pivot) (hpb : pivot < b) (hb : b ≤ d.size) :
    Calls P (ρ.f 32) #[.agg #[.func (.func g) #[] lb, .func (.func sf) #[] sb], .int .i64 a, .int .i64 b, .int .i64 pivot] w fun e w' =>
      e = .returned (.int .i64 (Sort.partitionEqual lt d a b pivot).1) ∧ SWK enc k w blk off (Sort.partitionEqual lt d a b pivot).2 w' := by
  have mixed := L.mixed; have t0 := L.t0; have a0 := L.a0; have z0 := L.z0; have v0 := L.v0; have t3 := L.t3; have a3 := L.a3; have z3 := L.z3; have v3 := L.v3; have t4 := L.t4; have a4 := L.a4; have z4 := L.z4; have v4 := L.v4; have t26 := L.t26; have a26 := L.a26; have z26 := L.z26; have v26 := L.v26; have t37 := L.t37; have a37 := L.a37; have z37 := L.z37; have v37 := L.v37; have t44 := L.t44; have a44 := L.a44; have z44 := L.z44; have v44 := L.v44
  have u44 := run_underlying L.t44
  have eg := S.eg
  have hsz := S.sz
  have hbl := S.blk_lt
  have S1 := S.boxed (.cells #[.func (.func g) #[] lb, .func (.func sf) #[] sb] (ρ.t 44))
  have st := Lib.hid S1.start
  have HS := Lib.hid S1
  clear S S1
  obtain ⟨W0, he0, hW0⟩ := HS.out.exch st.out rfl a pivot (by omega) (by omega) rfl rfl
  replace hW0 := Lib.hid hW0
  clear st
  go_enter L.f32, BodyGg.n32_ntmps ρ
  go_wp2
  go_loopg [9, 10] (b - a) (fun gm vi vj wr => ∃ (i j : Nat) (dk : Array α), vi = .int .i64 i ∧ vj = .int .i64 j ∧ a < i ∧ i ≤ j + 1 ∧ j < b ∧ j + 1 - i ≤ gm ∧ dk.size = d.size ∧ Hid (SWK enc k (w.alloc (.cells #[.func (.func g) #[] lb, .func (.func sf) #[] sb] (ρ.t 44))) blk off dk wr) ∧
      Hid (Sort.partEqLoop lt a i j dk = Sort.partEqLoop lt a (a + 1) (b - 1) (Sort.swp d a pivot)))
  case atStart => exact ⟨a + 1, b - 1, Sort.swp d a pivot, by go_num, by go_num, by omega, by omega, by omega, by omega, size_swp _ _ _, hW0, rfl⟩
  case round =>
    obtain ⟨i, j, dk, rfl, rfl, hai, hij, hjb, hgm, hs, hW, AE⟩ := hrel
    clear he0 hW0
    go_wp2
    go_loopg [9] (j + 1 - i) (fun gn vi w1 => ∃ (i' : Nat), vi = .int .i64 i' ∧ i ≤ i' ∧ i' ≤ j + 1 ∧ j + 1 - i' ≤ gn ∧ Hid (SWK enc k (w.alloc (.cells #[.func (.func g) #[] lb, .func (.func sf) #[] sb] (ρ.t 44))) blk off dk w1) ∧
        Hid (Sort.scanUp (fun x => !lt dk[a]! x) dk j i' = Sort.scanUp (fun x => !lt dk[a]! x) dk j i))
    case atStart => exact ⟨i, rfl, Nat.le_refl _, hij, Nat.le_refl _, hW, rfl⟩
    case round =>
      clear hW
      obtain ⟨i', rfl, hii, hij', hgn, hW, hsc⟩ := hrel
      obtain ⟨c0, c1⟩ := swk_box hbl hW.out
      by_cases hle : i' ≤ j
      · cases hlv : lt dk[a]! dk[i']! with
        | false =>
          have hl := HS.out.ask hW.out hs a i' (by omega) (by omega) rfl rfl hlv
          have hsc' : Hid (Sort.scanUp (fun x => !lt dk[a]! x) dk j (i' + 1) = Sort.scanUp (fun x => !lt dk[a]! x) dk j i) := (scanUp_go (fun x => !lt dk[a]! x) dk j i' hle (by simp [hlv])).symm.trans hsc.out
          clear hlv
          go_wp2_with (go_at_fn g; refine hl.mono ?_; rintro e w' ⟨rfl, hg⟩; have hW2 := Lib.hid (swk_grown hW.out hg); clear hg)
          go_roundg (j + 1 - (i' + 1))
          case measure => omega
          case rel => exact ⟨i' + 1, by go_num, by omega, by omega, Nat.le_refl _, hW2, hsc'⟩
        | true =>
          have hl := HS.out.ask hW.out hs a i' (by omega) (by omega) rfl rfl hlv
          have hi2 : Hid (i' = Sort.scanUp (fun x => !lt dk[a]! x) dk j i) := (scanUp_end (fun x => !lt dk[a]! x) dk j i' (Or.inr (by simp [hlv]))).symm.trans hsc.out
          clear hlv hsc
          go_wp2_with (go_at_fn g; refine hl.mono ?_; rintro e w' ⟨rfl, hg⟩; have hW2 := Lib.hid (swk_grown hW.out hg); clear hg)
          go_loopg [10] j (fun gn vj w2 => ∃ (j' : Nat), vj = .int .i64 j' ∧ j' ≤ j ∧ i' ≤ j' + 1 ∧ j' ≤ gn ∧ Hid (SWK enc k (w.alloc (.cells #[.func (.func g) #[] lb, .func (.func sf) #[] sb] (ρ.t 44))) blk off dk w2) ∧
              Hid (Sort.scanDown (fun x => lt dk[a]! x) dk i' j' = Sort.scanDown (fun x => lt dk[a]! x) dk i' j))
          case atStart => exact ⟨j, rfl, Nat.le_refl _, hij', Nat.le_refl _, hW2, rfl⟩
          case round =>
            clear c0 c1 hW2
            obtain ⟨j', rfl, hjj, hij2, hgn2, hW, hsd⟩ := hrel
            obtain ⟨c0, c1⟩ := swk_box hbl hW.out
            by_cases hle2 : i' ≤ j'
            · cases hlv2 : lt dk[a]! dk[j']! with
              | true =>
                have hl := HS.out.ask hW.out hs a j' (by omega) (by omega) rfl rfl hlv2
                have hsd' : Hid (Sort.scanDown (fun x => lt dk[a]! x) dk i' (j' - 1) = Sort.scanDown (fun x => lt dk[a]! x) dk i' j) := (scanDown_go (fun x => lt dk[a]! x) dk i' j' hle2 (by omega) hlv2).symm.trans hsd.out
                clear hlv2
                go_wp2_with (go_at_fn g; refine hl.mono ?_; rintro e w' ⟨rfl, hg⟩; have hW3 := Lib.hid (swk_grown hW.out hg); clear hg)
                go_roundg (j' - 1)
                case measure => omega
                case rel => exact ⟨j' - 1, by go_num, by omega, by omega, Nat.le_refl _, hW3, hsd'⟩
              | false =>
                have hl := HS.out.ask hW.out hs a j' (by omega) (by omega) rfl rfl hlv2
                have hj2 : Hid (j' = Sort.scanDown (fun x => lt dk[a]! x) dk i' j) := (scanDown_end (fun x => lt dk[a]! x) dk i' j' (Or.inr hlv2)).symm.trans hsd.out
                have hlt3 := scans_lt lt a i j dk (by omega) hi2.out hj2.out hle2
                have hE : Hid (Sort.partEqLoop lt a (i' + 1) (j' - 1) (Sort.swp dk i' j') = Sort.partEqLoop lt a (a + 1) (b - 1) (Sort.swp d a pivot)) := by
                  show _ = _
                  rw [← AE.out]; exact (partEq_go lt a i j dk hi2.out hj2.out (by omega)).symm
                clear hlv2 hsd
                go_wp2_with (go_at_fn g; refine hl.mono ?_; rintro e w' ⟨rfl, hg⟩; have hW3 := Lib.hid (swk_grown hW.out hg); obtain ⟨W4, he, hW4⟩ := HS.out.exch hW3.out hs i' j' (by omega) (by omega) rfl rfl; obtain ⟨c2, c3⟩ := swk_box hbl hW3.out; replace hW4 := Lib.hid hW4; clear hg)
                go_roundg (j' - 1 + 1 - (i' + 1))
                case measure => omega
                case rel => exact ⟨i' + 1, j' - 1, Sort.swp dk i' j', by go_num, by go_num, by omega, by omega, by omega, Nat.le_refl _, by rw [size_swp]; exact hs, hW4, hE⟩
            · have hj2 : Hid (j' = Sort.scanDown (fun x => lt dk[a]! x) dk i' j) := (scanDown_end (fun x => lt dk[a]! x) dk i' j' (Or.inl hle2)).symm.trans hsd.out
              have hres : Hid (Sort.partitionEqual lt d a b pivot = (i', dk)) := by
                show _ = _
                unfold Sort.partitionEqual; rw [← AE.out]; exact partEq_break lt a i j dk hi2.out hj2.out (by omega)
              clear hsd
              go_wp2
              go_ret
              rw [hres.out]
              exact ⟨rfl, swk_alloc hW.out hbl⟩
      · have hi2 : Hid (i' = Sort.scanUp (fun x => !lt dk[a]! x) dk j i) := (scanUp_end (fun x => !lt dk[a]! x) dk j i' (Or.inl hle)).symm.trans hsc.out
        clear hsc
        go_wp2
        go_loopg [10] j (fun gn vj w2 => ∃ (j' : Nat), vj = .int .i64 j' ∧ j' ≤ j ∧ i' ≤ j' + 1 ∧ j' ≤ gn ∧ Hid (SWK enc k (w.alloc (.cells #[.func (.func g) #[] lb, .func (.func sf) #[] sb] (ρ.t 44))) blk off dk w2) ∧
            Hid (Sort.scanDown (fun x => lt dk[a]! x) dk i' j' = Sort.scanDown (fun x => lt dk[a]! x) dk i' j))
        case atStart => exact ⟨j, rfl, Nat.le_refl _, hij', Nat.le_refl _, hW, rfl⟩
        case round =>
          clear c0 c1 hW
          obtain ⟨j', rfl, hjj, hij2, hgn2, hW, hsd⟩ := hrel
          obtain ⟨c0, c1⟩ := swk_box hbl hW.out
          by_cases hle2 : i' ≤ j'
          · exfalso; omega
          · have hj2 : Hid (j' = Sort.scanDown (fun x => lt dk[a]! x) dk i' j) := (scanDown_end (fun x => lt dk[a]! x) dk i' j' (Or.inl hle2)).symm.trans hsd.out
            have hres : Hid (Sort.partitionEqual lt d a b pivot = (i', dk)) := by
              show _ = _
              unfold Sort.partitionEqual; rw [← AE.out]; exact partEq_break lt a i j dk hi2.out hj2.out (by omega)
            clear hsd
            go_wp2
            go_ret
            rw [hres.out]
            exact ⟨rfl, swk_alloc hW.out hbl⟩
end
end Go.Proofs.YtpfpjcfacbfjaaaGreatDoor
