/-
  sort.insertionSort_func with a comparison that may lay blocks.
-/
import Derived.Test.YtpfpjcfacbfjaaaGreatDoorGKit
namespace Go.Proofs.YtpfpjcfacbfjaaaGreatDoor
open Go.Shelf Go.RowKit Go.Lib Go.Sort
variable {P : Program} {ρ : Ren} {α : Type} [Inhabited α]
section
variable {g : Nat} {lb : Array Value} {sf : Nat} {sb : Array Value} {enc : α → List Value} {k : Nat} {lt : α → α → Bool} {blk off : Nat} {d : Array α} {w : World}
set_option maxHeartbeats 4000000 in
set_option maxRecDepth 100000 in
theorem ins_g (L : LaysGg.n26 P ρ) (S : SortIn P g lb sf sb enc k lt blk off d w) (a b : Nat) (hab : a ≤ b) (hb : b ≤ d.size) :
    Calls P (ρ.f 26) #[.agg #[.func (.func g) #[] lb, .func (.func sf) #[] sb], .int .i64 a, .int .i64 b] w fun e w' =>
      e = .returned (.tuple #[]) ∧ SWK enc k w blk off (Sort.insertionSort lt d a b) w' := by
  have mixed := L.mixed; have t0 := L.t0; have a0 := L.a0; have z0 := L.z0; have v0 := L.v0; have t3 := L.t3; have a3 := L.a3; have z3 := L.z3; have v3 := L.v3; have t4 := L.t4; have a4 := L.a4; have z4 := L.z4; have v4 := L.v4; have t26 := L.t26; have a26 := L.a26; have z26 := L.z26; have v26 := L.v26; have t37 := L.t37; have a37 := L.a37; have z37 := L.z37; have v37 := L.v37; have t44 := L.t44; have a44 := L.a44; have z44 := L.z44; have v44 := L.v44
  have u44 := run_underlying L.t44
  have eg := S.eg
  have hsz := S.sz
  have hbl := S.blk_lt
  have S1 := S.boxed (.cells #[.func (.func g) #[] lb, .func (.func sf) #[] sb] (ρ.t 44))
  have st := Lib.hid S1.start
  have HS := Lib.hid S1
  clear S S1
  go_enter L.f26, BodyGg.n26_ntmps ρ
  go_wp2
  go_loopg [6] (b + 1 - (a + 1)) (fun gm vi wr => ∃ (i : Nat) (dk : Array α), vi = .int .i64 i ∧ a < i ∧ i ≤ b + 1 ∧ b + 1 - i ≤ gm ∧ dk.size = d.size ∧ Hid (SWK enc k (w.alloc (.cells #[.func (.func g) #[] lb, .func (.func sf) #[] sb] (ρ.t 44))) blk off dk wr) ∧
      Hid (insOuter lt a b i dk = insOuter lt a b (a + 1) d))
  case atStart => exact ⟨a + 1, d, by go_num, by omega, by omega, by omega, rfl, st, rfl⟩
  case round =>
    obtain ⟨i, dk, rfl, hai, hib, hgm, hsk, hW, HO⟩ := hrel
    by_cases hlt : i < b
    · go_wp2
      go_loopg [7] i (fun gn vj wr2 => ∃ (j : Nat) (dj : Array α), vj = .int .i64 j ∧ a ≤ j ∧ j ≤ i ∧ j ≤ gn ∧ dj.size = d.size ∧ Hid (SWK enc k (w.alloc (.cells #[.func (.func g) #[] lb, .func (.func sf) #[] sb] (ρ.t 44))) blk off dj wr2) ∧
          Hid (insInner lt a j dj = insInner lt a i dk))
      case atStart => exact ⟨i, dk, rfl, by omega, Nat.le_refl _, Nat.le_refl _, hsk, hW, rfl⟩
      case round =>
        obtain ⟨j, dj, rfl, haj, hji, hgn, hsj, hW2, HI⟩ := hrel
        obtain ⟨c0, c1⟩ := swk_box hbl hW2.out
        have OUT : (j ≤ a ∨ lt dj[j]! dj[j - 1]! = false) → Hid (insOuter lt a b (i + 1) dj = insOuter lt a b (a + 1) d) := fun hs => by
          show _ = _
          rw [← HO.out, insOuter_go _ _ _ _ _ hlt, ← HI.out, insInner_stop _ _ _ _ hs]
        have OUT' := Lib.hid OUT
        clear OUT
        by_cases hja : a < j
        · have hjz : ((j - 1 : Nat) : Int) = (j : Int) - 1 := by omega
          have hjz' := Lib.hid hjz
          clear hjz
          cases hlv : lt dj[j]! dj[j - 1]! with
          | true =>
            have hl := HS.out.ask hW2.out hsj j (j - 1) (by omega) (by omega) rfl hjz'.out hlv
            go_wp2_with (go_at_fn g; refine hl.mono ?_; rintro e w' ⟨rfl, hg⟩; have hW3 := Lib.hid (swk_grown hW2.out hg); obtain ⟨W4, he, hW4⟩ := HS.out.exch hW3.out hsj j (j - 1) (by omega) (by omega) rfl hjz'.out; obtain ⟨c2, c3⟩ := swk_box hbl hW3.out; replace hW4 := Lib.hid hW4; clear hg)
            go_roundg (j - 1)
            case measure => omega
            case rel =>
              refine ⟨j - 1, swp dj j (j - 1), by congr 1; omega, by omega, by omega, Nat.le_refl _, by rw [size_swp]; exact hsj, hW4, (show Hid _ from ?_)⟩
              show _ = _
              rw [← HI.out, insInner_go lt a j dj hja hlv]
          | false =>
            have hl := HS.out.ask hW2.out hsj j (j - 1) (by omega) (by omega) rfl hjz'.out hlv
            have hO := OUT'.out (Or.inr hlv)
            go_wp2_with (go_at_fn g; refine hl.mono ?_; rintro e w' ⟨rfl, hg⟩; have hW3 := Lib.hid (swk_grown hW2.out hg); clear hg)
            go_roundg (b + 1 - (i + 1))
            case measure => omega
            case rel => exact ⟨i + 1, dj, by go_num, by omega, by omega, Nat.le_refl _, hsj, hW3, hO⟩
        · have hO := OUT'.out (Or.inl (by omega))
          go_wp2
          go_roundg (b + 1 - (i + 1))
          case measure => omega
          case rel => exact ⟨i + 1, dj, by go_num, by omega, by omega, Nat.le_refl _, hsj, hW2, hO⟩
    · have hres : Hid (dk = Sort.insertionSort lt d a b) := by
        show _ = _
        unfold Sort.insertionSort; rw [← HO.out, insOuter_stop _ _ _ _ _ hlt]
      go_wp2
      go_end0
      exact ⟨rfl, by rw [← hres.out]; exact swk_alloc hW.out hbl⟩
end
end Go.Proofs.YtpfpjcfacbfjaaaGreatDoor
