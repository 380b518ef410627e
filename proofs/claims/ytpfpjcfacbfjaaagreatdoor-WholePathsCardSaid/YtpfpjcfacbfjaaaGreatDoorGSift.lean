/-
  sort.siftDown_func with a comparison that may lay blocks.
-/
import Derived.Test.YtpfpjcfacbfjaaaGreatDoorGKit
import Derived.Sort.WalkB2
namespace Go.Proofs.YtpfpjcfacbfjaaaGreatDoor
open Go.Shelf Go.RowKit Go.Lib Go.Sort
variable {P : Program} {ρ : Ren} {α : Type} [Inhabited α]
section
variable {g : Nat} {lb : Array Value} {sf : Nat} {sb : Array Value} {enc : α → List Value} {k : Nat} {lt : α → α → Bool} {blk off : Nat} {d : Array α} {w : World}
set_option maxHeartbeats 4000000 in
set_option maxRecDepth 1000000 in
theorem sift_g (L : LaysGg.n34 P ρ) (S : SortIn P g lb sf sb enc k lt blk off d w) (lo hi first : Nat) (hlo : lo ≤ hi) (hb : first + hi ≤ d.size) :
    Calls P (ρ.f 34) #[.agg #[.func (.func g) #[] lb, .func (.func sf) #[] sb], .int .i64 lo, .int .i64 hi, .int .i64 first] w fun e w' =>
      e = .returned (.tuple #[]) ∧ SWK enc k w blk off (siftDown lt hi first lo d) w' := by
  have mixed := L.mixed; have t0 := L.t0; have a0 := L.a0; have z0 := L.z0; have v0 := L.v0; have t3 := L.t3; have a3 := L.a3; have z3 := L.z3; have v3 := L.v3; have t4 := L.t4; have a4 := L.a4; have z4 := L.z4; have v4 := L.v4; have t26 := L.t26; have a26 := L.a26; have z26 := L.z26; have v26 := L.v26; have t37 := L.t37; have a37 := L.a37; have z37 := L.z37; have v37 := L.v37; have t44 := L.t44; have a44 := L.a44; have z44 := L.z44; have v44 := L.v44
  have u44 := run_underlying L.t44
  have eg := S.eg
  have hsz := S.sz
  have hbl := S.blk_lt
  have S1 := S.boxed (.cells #[.func (.func g) #[] lb, .func (.func sf) #[] sb] (ρ.t 44))
  have st := Lib.hid S1.start
  have HS := Lib.hid S1
  clear S S1
  go_enter L.f34, BodyGg.n34_ntmps ρ
  go_wp2
  go_loopg [8] (hi - lo) (fun kx s8 wr => ∃ (root : Nat) (dk : Array α), s8 = .int .i64 root ∧ root ≤ hi ∧ hi - root ≤ kx ∧ dk.size = d.size ∧ Hid (SWK enc k (w.alloc (.cells #[.func (.func g) #[] lb, .func (.func sf) #[] sb] (ρ.t 44))) blk off dk wr) ∧ Hid (siftDown lt hi first root dk = siftDown lt hi first lo d))
  case atStart => exact ⟨lo, d, rfl, hlo, Nat.le_refl _, rfl, st, rfl⟩
  case round =>
    obtain ⟨root, dk, rfl, hr, hkx, hds, hW, HE⟩ := hrel
    obtain ⟨c0, c1⟩ := swk_box hbl hW.out
    by_cases h0 : hi ≤ 2 * root + 1
    · have h0z : (hi : Int) ≤ 2 * (root : Int) + 1 := by omega
      have hres : Hid (dk = siftDown lt hi first lo d) := by
        show _ = _
        rw [← HE.out, sd_end lt dk h0]
      go_wp2
      go_end0
      exact ⟨rfl, by rw [← hres.out]; exact swk_alloc hW.out hbl⟩
    · have h0z : ¬ ((hi : Int) ≤ 2 * (root : Int) + 1) := by omega
      by_cases h1 : 2 * root + 2 < hi
      · have h1z : 2 * (root : Int) + 1 + 1 < (hi : Int) := by omega
        cases hL : lt dk[first + (2 * root + 1)]! dk[first + (2 * root + 2)]! with
        | true =>
          have hl1 := HS.out.ask hW.out hds (first + (2 * root + 1)) (first + (2 * root + 2)) (by omega) (by omega) (x := (first : Int) + (2 * (root : Int) + 1)) (y := (first : Int) + (2 * (root : Int) + 1) + 1) (by omega) (by omega) hL
          cases hG : lt dk[first + root]! dk[first + (2 * root + 2)]! with
          | true =>
            go_wp2_with fail
            refine hl1.mono ?_
            rintro e w3 ⟨rfl, hg⟩
            have hW3 := Lib.hid (swk_grown hW.out hg)
            obtain ⟨c2, c3⟩ := swk_box hbl hW3.out
            clear hg hl1 c0 c1 hW
            have hl2 := HS.out.ask hW3.out hds (first + root) (first + (2 * root + 2)) (by omega) (by omega) (x := (first : Int) + (root : Int)) (y := (first : Int) + (2 * (root : Int) + 1 + 1)) (by omega) (by omega) hG
            have hE : Hid (siftDown lt hi first (2 * root + 2) (swp dk (first + root) (first + (2 * root + 2))) = siftDown lt hi first lo d) := by
              show _ = _
              rw [← HE.out, sd_right_go lt dk h1 hL hG]
            go_wp2_with fail
            refine hl2.mono ?_
            rintro e w4 ⟨rfl, hg⟩
            have hW4 := Lib.hid (swk_grown hW3.out hg)
            obtain ⟨c4, c5⟩ := swk_box hbl hW4.out
            obtain ⟨w5, he, hW5⟩ := HS.out.exch hW4.out hds (first + root) (first + (2 * root + 2)) (by omega) (by omega) (x := (first : Int) + (root : Int)) (y := (first : Int) + (2 * (root : Int) + 1 + 1)) (by omega) (by omega)
            replace hW5 := Lib.hid hW5
            clear hg hl2
            go_wp2
            go_roundg (hi - (2 * root + 2))
            case measure => omega
            case rel => exact ⟨2 * root + 2, swp dk (first + root) (first + (2 * root + 2)), by go_num, by omega, Nat.le_refl _, by rw [size_swp]; exact hds, hW5, hE⟩
          | false =>
            go_wp2_with fail
            refine hl1.mono ?_
            rintro e w3 ⟨rfl, hg⟩
            have hW3 := Lib.hid (swk_grown hW.out hg)
            obtain ⟨c2, c3⟩ := swk_box hbl hW3.out
            clear hg hl1 c0 c1 hW
            have hl2 := HS.out.ask hW3.out hds (first + root) (first + (2 * root + 2)) (by omega) (by omega) (x := (first : Int) + (root : Int)) (y := (first : Int) + (2 * (root : Int) + 1 + 1)) (by omega) (by omega) hG
            have hres : Hid (dk = siftDown lt hi first lo d) := by
              show _ = _
              rw [← HE.out, sd_right_stop lt dk h1 hL hG]
            go_wp2_with fail
            refine hl2.mono ?_
            rintro e w4 ⟨rfl, hg⟩
            have hW4 := Lib.hid (swk_grown hW3.out hg)
            clear hg hl2
            go_wp2
            (try simp only [Exit.inBlock, Exit.then]); refine bodyPost_ret (results_none rfl _ _ _) rfl ?_
            exact ⟨rfl, by rw [← hres.out]; exact swk_alloc hW4.out hbl⟩
        | false =>
          have hl1 := HS.out.ask hW.out hds (first + (2 * root + 1)) (first + (2 * root + 2)) (by omega) (by omega) (x := (first : Int) + (2 * (root : Int) + 1)) (y := (first : Int) + (2 * (root : Int) + 1) + 1) (by omega) (by omega) hL
          cases hG : lt dk[first + root]! dk[first + (2 * root + 1)]! with
          | true =>
            go_wp2_with fail
            refine hl1.mono ?_
            rintro e w3 ⟨rfl, hg⟩
            have hW3 := Lib.hid (swk_grown hW.out hg)
            obtain ⟨c2, c3⟩ := swk_box hbl hW3.out
            clear hg hl1 c0 c1 hW
            have hl2 := HS.out.ask hW3.out hds (first + root) (first + (2 * root + 1)) (by omega) (by omega) (x := (first : Int) + (root : Int)) (y := (first : Int) + (2 * (root : Int) + 1)) (by omega) (by omega) hG
            have hE : Hid (siftDown lt hi first (2 * root + 1) (swp dk (first + root) (first + (2 * root + 1))) = siftDown lt hi first lo d) := by
              show _ = _
              rw [← HE.out, sd_left_go lt dk (by omega) (fun _ => hL) hG]
            go_wp2_with fail
            refine hl2.mono ?_
            rintro e w4 ⟨rfl, hg⟩
            have hW4 := Lib.hid (swk_grown hW3.out hg)
            obtain ⟨c4, c5⟩ := swk_box hbl hW4.out
            obtain ⟨w5, he, hW5⟩ := HS.out.exch hW4.out hds (first + root) (first + (2 * root + 1)) (by omega) (by omega) (x := (first : Int) + (root : Int)) (y := (first : Int) + (2 * (root : Int) + 1)) (by omega) (by omega)
            replace hW5 := Lib.hid hW5
            clear hg hl2
            go_wp2
            go_roundg (hi - (2 * root + 1))
            case measure => omega
            case rel => exact ⟨2 * root + 1, swp dk (first + root) (first + (2 * root + 1)), by go_num, by omega, Nat.le_refl _, by rw [size_swp]; exact hds, hW5, hE⟩
          | false =>
            go_wp2_with fail
            refine hl1.mono ?_
            rintro e w3 ⟨rfl, hg⟩
            have hW3 := Lib.hid (swk_grown hW.out hg)
            obtain ⟨c2, c3⟩ := swk_box hbl hW3.out
            clear hg hl1 c0 c1 hW
            have hl2 := HS.out.ask hW3.out hds (first + root) (first + (2 * root + 1)) (by omega) (by omega) (x := (first : Int) + (root : Int)) (y := (first : Int) + (2 * (root : Int) + 1)) (by omega) (by omega) hG
            have hres : Hid (dk = siftDown lt hi first lo d) := by
              show _ = _
              rw [← HE.out, sd_left_stop lt dk (by omega) (fun _ => hL) hG]
            go_wp2_with fail
            refine hl2.mono ?_
            rintro e w4 ⟨rfl, hg⟩
            have hW4 := Lib.hid (swk_grown hW3.out hg)
            clear hg hl2
            go_wp2
            (try simp only [Exit.inBlock, Exit.then]); refine bodyPost_ret (results_none rfl _ _ _) rfl ?_
            exact ⟨rfl, by rw [← hres.out]; exact swk_alloc hW4.out hbl⟩
      · have h1z : ¬ (2 * (root : Int) + 1 + 1 < (hi : Int)) := by omega
        cases hG : lt dk[first + root]! dk[first + (2 * root + 1)]! with
        | true =>
          have hl2 := HS.out.ask hW.out hds (first + root) (first + (2 * root + 1)) (by omega) (by omega) (x := (first : Int) + (root : Int)) (y := (first : Int) + (2 * (root : Int) + 1)) (by omega) (by omega) hG
          have hE : Hid (siftDown lt hi first (2 * root + 1) (swp dk (first + root) (first + (2 * root + 1))) = siftDown lt hi first lo d) := by
            show _ = _
            rw [← HE.out, sd_left_go lt dk (by omega) (fun h => absurd h h1) hG]
          go_wp2_with fail
          refine hl2.mono ?_
          rintro e w4 ⟨rfl, hg⟩
          have hW4 := Lib.hid (swk_grown hW.out hg)
          obtain ⟨c4, c5⟩ := swk_box hbl hW4.out
          obtain ⟨w5, he, hW5⟩ := HS.out.exch hW4.out hds (first + root) (first + (2 * root + 1)) (by omega) (by omega) (x := (first : Int) + (root : Int)) (y := (first : Int) + (2 * (root : Int) + 1)) (by omega) (by omega)
          replace hW5 := Lib.hid hW5
          clear hg hl2
          go_wp2
          go_roundg (hi - (2 * root + 1))
          case measure => omega
          case rel => exact ⟨2 * root + 1, swp dk (first + root) (first + (2 * root + 1)), by go_num, by omega, Nat.le_refl _, by rw [size_swp]; exact hds, hW5, hE⟩
        | false =>
          have hl2 := HS.out.ask hW.out hds (first + root) (first + (2 * root + 1)) (by omega) (by omega) (x := (first : Int) + (root : Int)) (y := (first : Int) + (2 * (root : Int) + 1)) (by omega) (by omega) hG
          have hres : Hid (dk = siftDown lt hi first lo d) := by
            show _ = _
            rw [← HE.out, sd_left_stop lt dk (by omega) (fun h => absurd h h1) hG]
          go_wp2_with fail
          refine hl2.mono ?_
          rintro e w4 ⟨rfl, hg⟩
          have hW4 := Lib.hid (swk_grown hW.out hg)
          clear hg hl2
          go_wp2
          (try simp only [Exit.inBlock, Exit.then]); refine bodyPost_ret (results_none rfl _ _ _) rfl ?_
          exact ⟨rfl, by rw [← hres.out]; exact swk_alloc hW4.out hbl⟩
end
end Go.Proofs.YtpfpjcfacbfjaaaGreatDoor

