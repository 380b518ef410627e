/-
  sort.choosePivot_func with a comparison that may lay blocks.
-/
import Derived.Test.YtpfpjcfacbfjaaaGreatDoorGLot
import Derived.Sort.Walk11
namespace Go.Proofs.YtpfpjcfacbfjaaaGreatDoor
open Go.Shelf Go.RowKit Go.Lib Go.Sort
variable {P : Program} {ρ : Ren} {α : Type} [Inhabited α]
section
variable {g : Nat} {lb : Array Value} {sf : Nat} {sb : Array Value} {enc : α → List Value} {k : Nat} {lt : α → α → Bool} {blk off : Nat} {d : Array α} {w : World}
/-- The counter of choosePivot, seen from the world with its two boxes laid. -/
structure PivC (P : Program) (ρ : Ren) (g : Nat) (lb : Array Value) (sf : Nat) (sb : Array Value) (enc : α → List Value) (k : Nat) (lt : α → α → Bool) (blk off : Nat) (d : Array α) (w : World) : Prop where
  cell : ∀ X s, Cnt ((w.alloc (.cells #[.func (.func g) #[] lb, .func (.func sf) #[] sb] (ρ.t 44))).alloc (.cells #[.int .i64 0] (ρ.t 3))) (w.heap.size + 1) 0 s X → X.cell? ⟨w.heap.size + 1, 0, none⟩ = some (.int .i64 s)
  box0 : ∀ X s, Cnt ((w.alloc (.cells #[.func (.func g) #[] lb, .func (.func sf) #[] sb] (ρ.t 44))).alloc (.cells #[.int .i64 0] (ρ.t 3))) (w.heap.size + 1) 0 s X → X.cell? ⟨w.heap.size, 0, none⟩ = some (.func (.func g) #[] lb)
  box1 : ∀ X s, Cnt ((w.alloc (.cells #[.func (.func g) #[] lb, .func (.func sf) #[] sb] (ρ.t 44))).alloc (.cells #[.int .i64 0] (ρ.t 3))) (w.heap.size + 1) 0 s X → X.cell? ⟨w.heap.size, 1, none⟩ = some (.func (.func sf) #[] sb)
  swk : ∀ X s, Cnt ((w.alloc (.cells #[.func (.func g) #[] lb, .func (.func sf) #[] sb] (ρ.t 44))).alloc (.cells #[.int .i64 0] (ρ.t 3))) (w.heap.size + 1) 0 s X → SWK enc k w blk off d X
  start : Cnt ((w.alloc (.cells #[.func (.func g) #[] lb, .func (.func sf) #[] sb] (ρ.t 44))).alloc (.cells #[.int .i64 0] (ρ.t 3))) (w.heap.size + 1) 0 0 (((w.alloc (.cells #[.func (.func g) #[] lb, .func (.func sf) #[] sb] (ρ.t 44))).alloc (.cells #[.int .i64 0] (ρ.t 3))) )
  adj : ∀ X s x r, Cnt ((w.alloc (.cells #[.func (.func g) #[] lb, .func (.func sf) #[] sb] (ρ.t 44))).alloc (.cells #[.int .i64 0] (ρ.t 3))) (w.heap.size + 1) 0 s X → 1 ≤ x → x + 1 < d.size → s + 3 < 4611686018427387904 → medianAdjacent lt d x s = r → Calls P (ρ.f 37) #[.agg #[.func (.func g) #[] lb, .func (.func sf) #[] sb], .int .i64 x, .pointer (some ⟨w.heap.size + 1, 0, none⟩)] X fun e w' => e = .returned (.int .i64 (r.1 : Nat)) ∧ Cnt ((w.alloc (.cells #[.func (.func g) #[] lb, .func (.func sf) #[] sb] (ρ.t 44))).alloc (.cells #[.int .i64 0] (ρ.t 3))) (w.heap.size + 1) 0 r.2 w'
  med : ∀ X s x y z r, Cnt ((w.alloc (.cells #[.func (.func g) #[] lb, .func (.func sf) #[] sb] (ρ.t 44))).alloc (.cells #[.int .i64 0] (ρ.t 3))) (w.heap.size + 1) 0 s X → x < d.size → y < d.size → z < d.size → s + 3 < 4611686018427387904 → median lt d x y z s = r → Calls P (ρ.f 38) #[.agg #[.func (.func g) #[] lb, .func (.func sf) #[] sb], .int .i64 x, .int .i64 y, .int .i64 z, .pointer (some ⟨w.heap.size + 1, 0, none⟩)] X fun e w' => e = .returned (.int .i64 (r.1 : Nat)) ∧ Cnt ((w.alloc (.cells #[.func (.func g) #[] lb, .func (.func sf) #[] sb] (ρ.t 44))).alloc (.cells #[.int .i64 0] (ρ.t 3))) (w.heap.size + 1) 0 r.2 w'
theorem pivC (L : LaysGg.n29 P ρ) (S : SortIn P g lb sf sb enc k lt blk off d w) : PivC P ρ g lb sf sb enc k lt blk off d w := by
  have hS2 : Holds (Value.int .i64) ((w.alloc (.cells #[.func (.func g) #[] lb, .func (.func sf) #[] sb] (ρ.t 44))).alloc (.cells #[.int .i64 0] (ρ.t 3))) (w.heap.size + 1) 0 (one 0) := fun j hj => by
    have : j = 0 := by simp at hj; omega
    subst this
    exact ⟨by rw [World.cell?_alloc_at _ _ _ _ (by simp)]; rfl, World.frozen?_alloc_at _ _ _ _ (by simp)⟩
  have hc2 : w.heap.size + 1 < ((w.alloc (.cells #[.func (.func g) #[] lb, .func (.func sf) #[] sb] (ρ.t 44))).alloc (.cells #[.int .i64 0] (ρ.t 3))).heap.size := by simp
  have hW2 : SWK enc k w blk off d ((w.alloc (.cells #[.func (.func g) #[] lb, .func (.func sf) #[] sb] (ρ.t 44))).alloc (.cells #[.int .i64 0] (ρ.t 3))) := (S.start.alloc _).alloc _
  have hl : w.heap.size < ((w.alloc (.cells #[.func (.func g) #[] lb, .func (.func sf) #[] sb] (ρ.t 44))).alloc (.cells #[.int .i64 0] (ρ.t 3))).heap.size := by simp; omega
  exact {
    cell := fun X s h => (one_cell (cnt_holds hc2 hS2 h)).1
    box0 := fun X s h => cnt_cell (a := ⟨w.heap.size, 0, none⟩) h (by show w.heap.size ≠ w.heap.size + 1; omega) hl (by rw [World.cell?_alloc_past _ _ _ (by simp)]; simp)
    box1 := fun X s h => cnt_cell (a := ⟨w.heap.size, 1, none⟩) h (by show w.heap.size ≠ w.heap.size + 1; omega) hl (by rw [World.cell?_alloc_past _ _ _ (by simp)]; simp)
    swk := fun X s h => cnt_swk hW2 (by omega) h
    start := cnt_start hS2
    adj := fun X s x r h h1 h2 hs hr => by
      subst hr
      exact (medianAdj_g (P := P) (ρ := ρ) { L with } S (cnt_swk hW2 (by omega) h) x (w.heap.size + 1) 0 s h1 h2 (cnt_holds hc2 hS2 h) (by omega) (cnt_lt hc2 h) hs).mono fun _ _ ⟨he, hc⟩ => ⟨he, cnt_trans hc2 h hc⟩
    med := fun X s x y z r h hx hy hz hs hr => by
      subst hr
      exact (median_g (P := P) (ρ := ρ) { L with } S (cnt_swk hW2 (by omega) h) x y z (w.heap.size + 1) 0 s hx hy hz (cnt_holds hc2 hS2 h) (by omega) (cnt_lt hc2 h) hs).mono fun _ _ ⟨he, hc⟩ => ⟨he, cnt_trans hc2 h hc⟩ }
set_option maxHeartbeats 4000000 in
set_option maxRecDepth 100000 in
theorem pivot_g (L : LaysGg.n29 P ρ) (S : SortIn P g lb sf sb enc k lt blk off d w) (a b : Nat) (hab : a < b) (hb : b ≤ d.size) :
    Calls P (ρ.f 29) #[.agg #[.func (.func g) #[] lb, .func (.func sf) #[] sb], .int .i64 a, .int .i64 b] w fun e w' =>
      e = .returned (.tuple #[.int .i64 (choosePivot lt d a b).1, .int .i64 (hintCode (choosePivot lt d a b).2)]) ∧ SWK enc k w blk off d w' := by
  have PC := Lib.hid (pivC L S)
  have hsz := S.sz
  have mixed := L.mixed; have t0 := L.t0; have a0 := L.a0; have z0 := L.z0; have v0 := L.v0; have t3 := L.t3; have a3 := L.a3; have z3 := L.z3; have v3 := L.v3; have t4 := L.t4; have a4 := L.a4; have z4 := L.z4; have v4 := L.v4; have t26 := L.t26; have a26 := L.a26; have z26 := L.z26; have v26 := L.v26; have t37 := L.t37; have a37 := L.a37; have z37 := L.z37; have v37 := L.v37; have t44 := L.t44; have a44 := L.a44; have z44 := L.z44; have v44 := L.v44; have t53 := L.t53; have a53 := L.a53; have z53 := L.z53; have v53 := L.v53; have t64 := L.t64; have a64 := L.a64; have z64 := L.z64; have v64 := L.v64; have t67 := L.t67; have a67 := L.a67; have z67 := L.z67; have v67 := L.v67
  have u44 := run_underlying L.t44
  have e37 : ∀ args w, (callFunc (ρ.f 37) args).run P w = .ok (.enter (ρ.f 37) args) w := enters_of L.f37 (by kernel_rfl) rfl
  have e38 : ∀ args w, (callFunc (ρ.f 38) args).run P w = .ok (.enter (ρ.f 38) args) w := enters_of L.f38 (by kernel_rfl) rfl
  clear S
  rw [choosePivot_eq]
  obtain ⟨I, hI⟩ : ∃ I : Nat, I = a + (b - a) / 4 * 1 := ⟨_, rfl⟩
  obtain ⟨J, hJ⟩ : ∃ J : Nat, J = a + (b - a) / 4 * 2 := ⟨_, rfl⟩
  obtain ⟨K, hK⟩ : ∃ K : Nat, K = a + (b - a) / 4 * 3 := ⟨_, rfl⟩
  have eI : ((a : Int) + ((b : Int) - (a : Int)) / 4) = (I : Int) := by omega
  have eJ : ((a : Int) + ((b : Int) - (a : Int)) / 4 * 2) = (J : Int) := by omega
  have eK : ((a : Int) + ((b : Int) - (a : Int)) / 4 * 3) = (K : Int) := by omega
  by_cases h8 : b - a ≥ 8
  · by_cases h50 : b - a ≥ 50
    · obtain ⟨i1, s1, h1⟩ : ∃ i1 s1, medianAdjacent lt d I 0 = (i1, s1) := ⟨_, _, rfl⟩
      obtain ⟨j1, s2, h2⟩ : ∃ j1 s2, medianAdjacent lt d J s1 = (j1, s2) := ⟨_, _, rfl⟩
      obtain ⟨k1, s3, h3⟩ : ∃ k1 s3, medianAdjacent lt d K s2 = (k1, s3) := ⟨_, _, rfl⟩
      obtain ⟨p, s, h4⟩ : ∃ p s, median lt d i1 j1 k1 s3 = (p, s) := ⟨_, _, rfl⟩
      have hraw : rawPivot lt d a b = (p, s) := by simp only [rawPivot, if_pos h8, if_pos h50, ← hI, ← hJ, ← hK, h1, h2, h3, h4]
      have m1 := medianAdjacent_mem lt d I 0; rw [h1] at m1
      have m2 := medianAdjacent_mem lt d J s1; rw [h2] at m2
      have m3 := medianAdjacent_mem lt d K s2; rw [h3] at m3
      have n1 := medianAdjacent_count lt d I 0; rw [h1] at n1
      have n2 := medianAdjacent_count lt d J s1; rw [h2] at n2
      have n3 := medianAdjacent_count lt d K s2; rw [h3] at n3
      simp only [] at m1 m2 m3 n1 n2 n3
      have c1 := PC.out.adj _ 0 I _ PC.out.start (by omega) (by omega) (by omega) h1
      have C2 := Lib.hid (fun X (hX : Cnt ((w.alloc (.cells #[.func (.func g) #[] lb, .func (.func sf) #[] sb] (ρ.t 44))).alloc (.cells #[.int .i64 0] (ρ.t 3))) (w.heap.size + 1) 0 s1 X) => PC.out.adj X s1 J _ hX (by omega) (by omega) (by omega) h2)
      have C3 := Lib.hid (fun X (hX : Cnt ((w.alloc (.cells #[.func (.func g) #[] lb, .func (.func sf) #[] sb] (ρ.t 44))).alloc (.cells #[.int .i64 0] (ρ.t 3))) (w.heap.size + 1) 0 s2 X) => PC.out.adj X s2 K _ hX (by omega) (by omega) (by omega) h3)
      have C4 := Lib.hid (fun X (hX : Cnt ((w.alloc (.cells #[.func (.func g) #[] lb, .func (.func sf) #[] sb] (ρ.t 44))).alloc (.cells #[.int .i64 0] (ρ.t 3))) (w.heap.size + 1) 0 s3 X) => PC.out.med X s3 i1 j1 k1 _ hX (by omega) (by omega) (by omega) (by omega) h4)
      rw [hraw]
      obtain ⟨Hc, hHc⟩ : ∃ Hc : Int, Hc = hintCode (hintOf s) := ⟨_, rfl⟩
      have hh0 : s = 0 → Hc = 1 := fun h => by rw [hHc, h]; rfl
      have hh12 : s = 12 → Hc = 2 := fun h => by rw [hHc, h]; rfl
      have hhx : s ≠ 0 → s ≠ 12 → Hc = 0 := fun h1 h2 => by rw [hHc]; unfold hintOf; rw [if_neg h1, if_neg h2]; rfl
      show Calls P (ρ.f 29) _ w fun e w' => e = .returned (.tuple #[.int .i64 (p : Int), .int .i64 (hintCode (hintOf s))]) ∧ SWK enc k w blk off d w'
      rw [← hHc]
      have HH0 := Lib.hid hh0
      have HH12 := Lib.hid hh12
      have HHX := Lib.hid hhx
      clear hHc hraw hh0 hh12 hhx
      clear h1 h2 h3 h4 hI hJ hK m1 m2 m3
      have z0 := PC.out.cell _ _ PC.out.start
      have z1 := PC.out.box0 _ _ PC.out.start
      have z2 := PC.out.box1 _ _ PC.out.start
      go_enter L.f29, BodyGg.n29_ntmps ρ
      go_wp2_with fail
      refine c1.mono ?_
      rintro e w1 ⟨rfl, h1⟩
      have c2 := C2.out _ h1
      have x0 := PC.out.box0 _ _ h1
      have x1 := PC.out.box1 _ _ h1
      clear h1 c1
      go_wp2_with fail
      refine c2.mono ?_
      rintro e w2 ⟨rfl, h2⟩
      have c3 := C3.out _ h2
      have y0 := PC.out.box0 _ _ h2
      have y1 := PC.out.box1 _ _ h2
      clear h2 c2
      go_wp2_with fail
      refine c3.mono ?_
      rintro e w3 ⟨rfl, h3⟩
      have c4 := C4.out _ h3
      have v0 := PC.out.box0 _ _ h3
      have v1 := PC.out.box1 _ _ h3
      clear h3 c3
      go_wp2_with fail
      refine c4.mono ?_
      rintro e w4 ⟨rfl, h4⟩
      have u0 := PC.out.cell _ _ h4
      have hsw := Lib.hid (PC.out.swk _ _ h4)
      clear h4 c4
      go_wp2
      all_goals
        go_ret2
        refine ⟨?_, hsw.out⟩
        first
          | (have e0 : (s : Int) = 0 := of_beq_int (by assumption)
             rw [HH0.out (by omega)]; rfl)
          | (have e1 : (s : Int) = 12 := of_beq_int (by assumption)
             rw [HH12.out (by omega)]; rfl)
          | (have e0 : (s : Int) ≠ 0 := of_bne_int (by assumption)
             have e1 : (s : Int) ≠ 12 := of_bne_int (by assumption)
             rw [HHX.out (by omega) (by omega)]; rfl)
          | (rw [HH0.out (by omega)]; rfl)
    · obtain ⟨p, s, h4⟩ : ∃ p s, median lt d I J K 0 = (p, s) := ⟨_, _, rfl⟩
      have hraw : rawPivot lt d a b = (p, s) := by simp only [rawPivot, if_pos h8, if_neg h50, ← hI, ← hJ, ← hK, h4]
      have c4 := PC.out.med _ 0 I J K _ PC.out.start (by omega) (by omega) (by omega) (by omega) h4
      rw [hraw]
      obtain ⟨Hc, hHc⟩ : ∃ Hc : Int, Hc = hintCode (hintOf s) := ⟨_, rfl⟩
      have hh0 : s = 0 → Hc = 1 := fun h => by rw [hHc, h]; rfl
      have hh12 : s = 12 → Hc = 2 := fun h => by rw [hHc, h]; rfl
      have hhx : s ≠ 0 → s ≠ 12 → Hc = 0 := fun h1 h2 => by rw [hHc]; unfold hintOf; rw [if_neg h1, if_neg h2]; rfl
      show Calls P (ρ.f 29) _ w fun e w' => e = .returned (.tuple #[.int .i64 (p : Int), .int .i64 (hintCode (hintOf s))]) ∧ SWK enc k w blk off d w'
      rw [← hHc]
      have HH0 := Lib.hid hh0
      have HH12 := Lib.hid hh12
      have HHX := Lib.hid hhx
      clear hHc hraw hh0 hh12 hhx
      clear h4 hI hJ hK
      have z0 := PC.out.cell _ _ PC.out.start
      have z1 := PC.out.box0 _ _ PC.out.start
      have z2 := PC.out.box1 _ _ PC.out.start
      go_enter L.f29, BodyGg.n29_ntmps ρ
      go_wp2_with fail
      refine c4.mono ?_
      rintro e w4 ⟨rfl, h4⟩
      have u0 := PC.out.cell _ _ h4
      have hsw := Lib.hid (PC.out.swk _ _ h4)
      clear h4 c4
      go_wp2
      all_goals
        go_ret2
        refine ⟨?_, hsw.out⟩
        first
          | (have e0 : (s : Int) = 0 := of_beq_int (by assumption)
             rw [HH0.out (by omega)]; rfl)
          | (have e1 : (s : Int) = 12 := of_beq_int (by assumption)
             rw [HH12.out (by omega)]; rfl)
          | (have e0 : (s : Int) ≠ 0 := of_bne_int (by assumption)
             have e1 : (s : Int) ≠ 12 := of_bne_int (by assumption)
             rw [HHX.out (by omega) (by omega)]; rfl)
          | (rw [HH0.out (by omega)]; rfl)
  · obtain ⟨p, hp⟩ : ∃ p : Nat, p = J := ⟨_, rfl⟩
    have hraw : rawPivot lt d a b = (p, 0) := by simp only [rawPivot, if_neg h8, ← hJ, hp]
    have hsw := Lib.hid (PC.out.swk _ _ PC.out.start)
    rw [hraw]
    clear hraw
    subst hp
    clear hI hJ hK
    have z0 : ((w.alloc (.cells #[.func (.func g) #[] lb, .func (.func sf) #[] sb] (ρ.t 44))).alloc (.cells #[.int .i64 0] (ρ.t 3))).cell? ⟨w.heap.size + 1, 0, none⟩ = some (.int .i64 0) := PC.out.cell _ _ PC.out.start
    go_enter L.f29, BodyGg.n29_ntmps ρ
    go_wp2
    go_ret2
    exact ⟨rfl, hsw.out⟩
end
end Go.Proofs.YtpfpjcfacbfjaaaGreatDoor
