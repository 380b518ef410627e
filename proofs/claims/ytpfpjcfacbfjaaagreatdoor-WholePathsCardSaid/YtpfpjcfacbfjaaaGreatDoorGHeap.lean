/-
  sort.heapSort_func with a comparison that may lay blocks.
-/
import Derived.Test.YtpfpjcfacbfjaaaGreatDoorGSift
import Derived.Sort.WalkB3
namespace Go.Proofs.YtpfpjcfacbfjaaaGreatDoor
open Go.Shelf Go.RowKit Go.Lib Go.Sort
variable {P : Program} {ρ : Ren} {α : Type} [Inhabited α]
section
variable {g : Nat} {lb : Array Value} {sf : Nat} {sb : Array Value} {enc : α → List Value} {k : Nat} {lt : α → α → Bool} {blk off : Nat} {d : Array α} {w : World}
set_option maxHeartbeats 4000000 in
set_option maxRecDepth 1000000 in
theorem heap_g (L : LaysGg.n27 P ρ) (S : SortIn P g lb sf sb enc k lt blk off d w) (a b : Nat) (hab : a ≤ b) (hb : b ≤ d.size) :
    Calls P (ρ.f 27) #[.agg #[.func (.func g) #[] lb, .func (.func sf) #[] sb], .int .i64 a, .int .i64 b] w fun e w' =>
      e = .returned (.tuple #[]) ∧ SWK enc k w blk off (heapSort lt d a b) w' := by
  have mixed := L.mixed; have t0 := L.t0; have a0 := L.a0; have z0 := L.z0; have v0 := L.v0; have t3 := L.t3; have a3 := L.a3; have z3 := L.z3; have v3 := L.v3; have t4 := L.t4; have a4 := L.a4; have z4 := L.z4; have v4 := L.v4; have t26 := L.t26; have a26 := L.a26; have z26 := L.z26; have v26 := L.v26; have t37 := L.t37; have a37 := L.a37; have z37 := L.z37; have v37 := L.v37; have t44 := L.t44; have a44 := L.a44; have z44 := L.z44; have v44 := L.v44
  have u44 := run_underlying L.t44
  have e34 : ∀ args w, (callFunc (ρ.f 34) args).run P w = .ok (.enter (ρ.f 34) args) w := enters_of L.f34 (by kernel_rfl) rfl
  have HC := Lib.hid (show ((b - a : Nat) : Int) = (b : Int) - (a : Int) by omega)
  have eg := S.eg
  have hsz := S.sz
  have hbl := S.blk_lt
  have S1 := S.boxed (.cells #[.func (.func g) #[] lb, .func (.func sf) #[] sb] (ρ.t 44))
  have st := Lib.hid S1.start
  have HS := Lib.hid S1
  have HL := Lib.hid L
  clear S S1
  go_enter L.f27, BodyGg.n27_ntmps ρ
  go_wp2
  go_loopg [9] ((b - a - 1) / 2 + 1) (fun kx s9 wr => s9 = .int .i64 ((kx : Int) - 1) ∧ kx ≤ (b - a - 1) / 2 + 1 ∧ ∃ (dk : Array α), dk.size = d.size ∧ Hid (SWK enc k (w.alloc (.cells #[.func (.func g) #[] lb, .func (.func sf) #[] sb] (ρ.t 44))) blk off dk wr) ∧
    Hid (heapBuild lt (b - a) a kx dk = heapBuild lt (b - a) a ((b - a - 1) / 2 + 1) d))
  case atStart => exact ⟨by rw [half_start hab], Nat.le_refl _, d, rfl, st, rfl⟩
  case round =>
    obtain ⟨rfl, hkk, dk, hds, hW, HE⟩ := hrel
    obtain ⟨c0, c1⟩ := swk_box hbl hW.out
    cases gk with
    | zero =>
      have hB : Hid (dk = heapBuild lt (b - a) a ((b - a - 1) / 2 + 1) d) := HE.out
      clear HE hkk
      go_wp2
      go_loopg [10] (b - a) (fun kx s10 wr2 => s10 = .int .i64 ((kx : Int) - 1) ∧ kx ≤ b - a ∧ ∃ (dj : Array α), dj.size = d.size ∧ Hid (SWK enc k (w.alloc (.cells #[.func (.func g) #[] lb, .func (.func sf) #[] sb] (ρ.t 44))) blk off dj wr2) ∧ Hid (heapPop lt a kx dj = heapPop lt a (b - a) dk))
      case atStart => exact ⟨by rw [HC.out], Nat.le_refl _, dk, hds, hW, rfl⟩
      case round =>
        clear c0 c1 hW
        obtain ⟨rfl, hkk, dj, hdj, hW, HE2⟩ := hrel
        obtain ⟨c0, c1⟩ := swk_box hbl hW.out
        cases gk with
        | zero =>
          have hres : Hid (dj = heapSort lt d a b) := by
            show _ = _
            rw [heapSort, ← hB.out, ← HE2.out]; rfl
          go_wp2
          go_end0
          exact ⟨rfl, by rw [← hres.out]; exact swk_alloc hW.out hbl⟩
        | succ kx =>
          obtain ⟨w2, he, hW2⟩ := HS.out.exch hW.out hdj a (a + kx) (by omega) (by omega) (x := (a : Int)) (y := (a : Int) + (kx : Int)) rfl (by omega)
          have hd2 : (swp dj a (a + kx)).size = d.size := by rw [size_swp]; exact hdj
          have hcall := sift_g (P := P) (ρ := ρ) { HL.out with } (HS.out.on hW2 hd2) 0 kx a (Nat.zero_le _) (by rw [hd2]; omega)
          obtain ⟨c2, c3⟩ := swk_box hbl hW2
          replace hW2 := Lib.hid hW2
          have Hd2 := Lib.hid hd2
          clear hd2
          have hcall' : Calls P (ρ.f 34) #[.agg #[.func (.func g) #[] lb, .func (.func sf) #[] sb], .int .i64 0, .int .i64 (kx : Int), .int .i64 (a : Int)] w2 fun e w' => e = .returned (.tuple #[]) ∧ SWK enc k w2 blk off (siftDown lt kx a 0 (swp dj a (a + kx))) w' := hcall
          clear hcall
          go_wp2_with (go_at_fn (ρ.f 34); refine hcall'.mono ?_; rintro e w4 ⟨rfl, hS⟩; have hW4 := Lib.hid (swk_trans hW2.out (HS.out.blk_lt) (size_siftDown lt _ _ _ _ _ (Nat.le_refl _)) hS); clear hS)
          go_roundg kx
          case measure => omega
          case rel => exact ⟨by simp, by omega, siftDown lt kx a 0 (swp dj a (a + kx)), by rw [size_siftDown lt _ _ _ _ _ (Nat.le_refl _)]; exact Hd2.out, hW4, HE2⟩
    | succ kx =>
      have hcall := sift_g (P := P) (ρ := ρ) { HL.out with } (HS.out.on hW.out hds) kx (b - a) a (by omega) (by omega)
      rw [HC.out] at hcall
      go_wp2_with (go_at_fn (ρ.f 34); refine hcall.mono ?_; rintro e w4 ⟨rfl, hS⟩; have hW4 := Lib.hid (swk_trans hW.out (HS.out.blk_lt) (size_siftDown lt _ _ _ _ _ (Nat.le_refl _)) hS); clear hS)
      go_roundg kx
      case measure => omega
      case rel => exact ⟨by simp, by omega, siftDown lt (b - a) a kx dk, by rw [size_siftDown lt _ _ _ _ _ (Nat.le_refl _)]; exact hds, hW4, HE⟩
end
end Go.Proofs.YtpfpjcfacbfjaaaGreatDoor
