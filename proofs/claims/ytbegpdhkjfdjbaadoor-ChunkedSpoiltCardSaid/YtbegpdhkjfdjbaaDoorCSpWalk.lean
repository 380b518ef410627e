/-
  Layer 7: the walk of ChunkedSpoilt.
-/
import Derived.Test.YtbegpdhkjfdjbaaDoorCGrw
import Derived.Test.YtbegpdhkjfdjbaaDoorCChunk
import Derived.Test.YtbegpdhkjfdjbaaDoorCSpoil
import Derived.Test.YtbegpdhkjfdjbaaDoorCAwake
import Derived.Deep.CutBlock
import Derived.Deep.DeepCutAuto
namespace Go.Proofs.YtbegpdhkjfdjbaaDoor
open Go.RowKit Syn Ck

set_option maxRecDepth 100000 in
set_option maxHeartbeats 16000000 in
theorem spoilt_walk (bf b : List UInt8) (A1 A2 : Option Addr) (c1 c2 k : Nat) (hk : k < 256) (W0 : World) (hR1 : Rd W0 1 (.slice A1 bf.length c1) bf.length (u8s bf)) (hR2 : Rd W0 1 (.slice A2 b.length c2) b.length (u8s b))
    (hm1 : bf.length ≤ 140737488355328) (hm2 : b.length ≤ 140737488355328) (hT : W0.cell? ⟨5, 15, none⟩ = some (.int .u8 4)) :
    Calls Tryd.prog 6 #[.slice A1 bf.length c1, .slice A2 b.length c2, .int .u8 (k : Int)] W0 fun e w' => e = .returned (.bool true) ∧ Below W0.heap.size W0 w' := by
  have h5 := cell_lt hT
  replace hT := Lib.hid hT
  by_cases hbig : 12000 < bf.length + b.length
  · replace hR1 := Lib.hid hR1
    replace hR2 := Lib.hid hR2
    go_enter Tryd.func6, Tryd.ntmps6
    go_wp2_with fail
    refine (cawake_any _).mono ?_
    rintro e w1 ⟨rfl, hb1⟩
    replace hb1 := Lib.hid hb1
    go_wp2_with fail
    refine (cawake_any _).mono ?_
    rintro e w3 ⟨rfl, hb3⟩
    have hB3 := Lib.hid (Below.next hb1.out hb1.out.size hb3)
    clear hb3
    go_wp2
    go_ret
    exact ⟨rfl, hB3.out⟩
  by_cases h0 : b.length = 0
  · have hq : ((b.length : Int) == 0) = true := beq_cast_true h0
    replace hR1 := Lib.hid hR1
    replace hR2 := Lib.hid hR2
    replace h0 := Lib.hid h0
    go_enter Tryd.func6, Tryd.ntmps6
    go_wp2_with fail
    refine (cawake_any _).mono ?_
    rintro e w1 ⟨rfl, hb1⟩
    replace hb1 := Lib.hid hb1
    go_wp2_with fail
    refine (cawake_any _).mono ?_
    rintro e w3 ⟨rfl, hb3⟩
    have hB3 := Lib.hid (Below.next hb1.out hb1.out.size hb3)
    clear hb3
    go_wp2
    go_ret
    exact ⟨rfl, hB3.out⟩
  have hq : ((b.length : Int) == 0) = false := beq_cast_false h0
  have hne : b ≠ [] := fun e => h0 (by rw [e]; rfl)
  obtain ⟨hcl, hct1, hct2, hct3⟩ := chk_cut hne
  have hhx := hexs_five (n := b.length) (by omega)
  have hcl2 : (chk bf).length ≤ 20000 := by
    by_cases e : bf = []
    · subst e; decide
    · have h := (chk_cut e).1
      have h' := hexs_five (n := bf.length) (by omega)
      omega
  replace hR1 := Lib.hid hR1
  replace hR2 := Lib.hid hR2
  replace h0 := Lib.hid h0
  replace hne := Lib.hid hne
  replace hct1 := Lib.hid hct1
  replace hct2 := Lib.hid hct2
  replace hct3 := Lib.hid hct3
  go_enter Tryd.func6, Tryd.ntmps6
  go_wp2_with fail
  refine (cawake_any _).mono ?_
  rintro e w1 ⟨rfl, hb1⟩
  have hC := Lib.hid (chunk_any b A2 c2 w1 (hR2.out.below hb1) (by omega) ((hb1.cell h5).trans hT.out))
  replace hb1 := Lib.hid hb1
  go_wp2_with fail
  refine hC.out.mono ?_
  rintro e w2 ⟨v7, rfl, ho7, hb2⟩
  have hB2 := Lib.hid (Below.next hb1.out hb1.out.size hb2)
  obtain ⟨n1, hn1⟩ : ∃ n1, (chk b).length = n1 := ⟨_, rfl⟩
  obtain ⟨nh, hnh⟩ : ∃ nh, (hexs b.length).length = nh := ⟨_, rfl⟩
  rw [hnh] at hhx hct1 hcl
  rw [hn1] at ho7 hcl hct2 hct3
  obtain ⟨A7, c7, rfl, hc7, hcl7, hr7⟩ := Rd.own ho7
  obtain ⟨g7, rfl⟩ : ∃ g7, A7 = some ⟨g7, 0, none⟩ := by
    obtain ⟨_, ⟨h1, h2⟩ | ⟨g, cap', cur, e, _⟩⟩ := ho7
    · exfalso; injection h1; omega
    · injection e with e1; exact ⟨g, e1⟩
  have hg7 : g7 < w2.heap.size := ho7.lt rfl
  have hw1 : IntKind.i64.wrap ((n1 : Int) - b.length) = (n1 : Int) - b.length := IntWalk.i64_in _ (by omega)
  have hw2 : IntKind.i64.wrap ((n1 : Int) - b.length - 4) = (nh : Int) := by rw [IntWalk.i64_in _ (by omega)]; omega
  have hC2 := fun w' (hb : Below w2.heap.size w2 w') => chunk_any bf A1 c1 w' (hR1.out.below (Below.next hB2.out hB2.out.size hb)) (by omega) (((Below.next hB2.out hB2.out.size hb).cell h5).trans hT.out)
  have hbA := (Below.refl w2.heap.size w2).alloc (Nat.le_refl _) (.cells #[] 5)
  have hsA := alloc_size' w2 (.cells #[] 5)
  have hmade := World.ownsRow_made (base := w2.heap.size) (size := 1) (e := 5) w2 #[] 0 (Nat.le_refl _) (Nat.zero_le _) rfl
  have hCA := Lib.hid (hC2 _ hbA)
  clear hC2 hr7
  have hcl1 : nh + b.length + 4 ≤ n1 := by omega
  have hcl3 : n1 ≤ nh + b.length + 4 := by omega
  replace hcl := Lib.hid hcl
  replace hcl7 := Lib.hid hcl7
  replace ho7 := Lib.hid ho7
  replace hb2 := Lib.hid hb2
  replace hmade := Lib.hid hmade
  replace hbA := Lib.hid hbA
  replace hn1 := Lib.hid hn1
  replace hnh := Lib.hid hnh
  replace hsA := Lib.hid hsA
  go_wp2_with fail
  refine hCA.out.mono ?_
  rintro e w3 ⟨v45, rfl, ho3, hb3⟩
  obtain ⟨A45, c45, rfl, hc45, -, -⟩ := Rd.own ho3
  have hsA' := hsA.out
  have hs3 := hb3.size
  have hM3 := own_below hmade.out hb3
  have hG3 := Lib.hid (Grw.init (B := w2.heap.size) (L := []) hM3 (by omega))
  have hR3 := Lib.hid (Rd.own ho3)
  have hB3 := Lib.hid (hbA.out.trans (hb3.mono (by omega)))
  clear hM3 hb3
  replace ho3 := Lib.hid ho3
  go_upto_block 0 with (at_builtin; go_loud (refine step_grw _ _ rfl rfl (chk bf) hG3.out rfl rfl rfl hR3.out (by rw [List.length_nil]; omega) ?_); intro v9 w4 hG4 hg4; rw [List.nil_append] at hG4; obtain ⟨A9, c9, rfl, hc9, -, -⟩ := Rd.own hG4.own; replace hG4 := Lib.hid hG4; clear hg4)
  have hB4 := hB3.out.trans (hG4.out.below (fun k e => by cases e; exact Nat.le_refl _))
  have hs4 := hB4.size
  have hI4 := Lib.hid (Grw.init (B := w2.heap.size) hG4.out.own hs4)
  have hlt9 : ∀ j, (Value.slice A9 (chk bf).length c9).ownBlock = some j → w2.heap.size ≤ j := fun j hj => (World.ownsRow.lt hG4.out.own j hj).1
  have hRp : ∀ (v' : Value) (L' : List UInt8) (w' : World), Grw w4 (Value.slice A9 (chk bf).length c9) w2.heap.size v' L' w' → Rd w' 1 (.slice (some ⟨g7, 0, none⟩) n1 c7) n1 (u8s (chk b)) := fun v' L' w' hg =>
    ((Rd.own ho7.out).below hB4).kp (F := fun j => (Value.slice A9 (chk bf).length c9).ownBlock = some j) (fun j hj e => by have h1 := Option.some.inj hj; change g7 = j at h1; have := hlt9 _ e; omega) hg.kp
  have hBW := Lib.hid (hB2.out.trans (hB4.mono hB2.out.size))
  replace hB4 := Lib.hid hB4
  replace hlt9 := Lib.hid hlt9
  replace hRp := Lib.hid hRp
  clear hG3 hR3 hC hCA ho3 hsA hsA' hmade hbA hG4
  obtain ⟨L, hL⟩ : ∃ L, chk bf ++ spoil b (k % 5) = L := ⟨_, rfl⟩
  obtain ⟨N, hN⟩ : ∃ N, (chk bf).length + spoilN b (k % 5) = N := ⟨_, rfl⟩
  obtain ⟨n9, hn9⟩ : ∃ n9, (chk bf).length = n9 := ⟨_, rfl⟩
  have hI9 : Hid (Grw w4 (Value.slice A9 n9 c9) w2.heap.size (Value.slice A9 n9 c9) (chk bf) w4) := Lib.hid (by rw [← hn9]; exact hI4.out)
  rw [hn9] at hcl2 hN hRp hlt9 ⊢
  clear hI4
  replace hn9 := Lib.hid hn9
  replace hL := Lib.hid hL
  replace hN := Lib.hid hN
  go_cut [9, 10] (fun x9 x10 wx => ∃ (A : Option Addr) (c : Nat), x9 = .slice A L.length c ∧ x10 = .int .i64 (N : Int) ∧ Own wx w2.heap.size 5 1 (.slice A L.length c) L.length (u8s L) ∧ Below W0.heap.size W0 wx)
  case first =>
    have hlt9' : ∀ j, (Value.slice A9 n9 c9).ownBlock = some j → w2.heap.size ≤ j := hlt9.out
    have hcut : ∀ (L' : List UInt8) (v' : Value) (w' : World), Grw w4 (Value.slice A9 n9 c9) w2.heap.size v' L' w' → L' = L → ∃ (A : Option Addr) (c : Nat), v' = .slice A L.length c ∧ Own w' w2.heap.size 5 1 (.slice A L.length c) L.length (u8s L) ∧ Below W0.heap.size W0 w' := fun L' v' w' hg e => by
      subst e
      obtain ⟨A, c, rfl, -⟩ := Rd.own hg.own
      have h2 : Below w2.heap.size w2 w' := hB4.out.trans (hg.kp.toBelow hs4 hlt9')
      exact ⟨A, c, rfl, hg.own, hB2.out.trans (h2.mono hB2.out.size)⟩
    have k5 : k % 5 = 0 ∨ k % 5 = 1 ∨ k % 5 = 2 ∨ k % 5 = 3 ∨ k % 5 = 4 := by omega
    replace hcut := Lib.hid hcut
    clear hlt9'
    rcases k5 with k5 | k5 | k5 | k5 | k5
    · have qk0 : ((k : Int) % 5 == 0) = true := by rw [beq_iff_eq]; omega
      rw [k5] at hL hN
      replace k5 := Lib.hid k5
      have hRx0 := (hRp.out _ _ _ hI9.out).part 0 (n1 - 2) c7 (by omega) (by omega)
      obtain ⟨M1, hM1⟩ : ∃ M1, ((chk b).drop 0).take (n1 - 2) = M1 := ⟨_, rfl⟩
      have hRx : Hid (∀ (v' : Value) (L' : List UInt8) (w' : World), Grw w4 (Value.slice A9 n9 c9) w2.heap.size v' L' w' → Rd w' 1 (Value.slice (some ⟨g7, 0, none⟩) (n1 - 2) c7) (n1 - 2) (u8s M1)) := Lib.hid (fun v' L' w' hg => by rw [← hM1]; exact ((hRp.out _ _ _ hg).part 0 (n1 - 2) c7 (by omega) (by omega)).2)
      have hl1 : M1.length = n1 - 2 := by rw [← hM1]; exact hRx0.1
      clear hRx0
      have hNv : (N : Int) = (n9 : Int) + ((n1 : Int) - 2) := by have h := hN.out; simp only [spoilN] at h; rw [hn1.out] at h; omega
      have hne9 : Hid (∀ g, g = w4.heap.size → (Value.slice A9 n9 c9).ownBlock ≠ some g) := Lib.hid (fun g hg e => by have := (World.ownsRow.lt hI9.out.own g e).2; omega)
      have p0 : IntKind.i64.wrap ((n1 : Int) - 2) = (n1 : Int) - 2 := IntWalk.i64_in _ (by omega)
      have p1 : (0 : Int) ≤ (n1 : Int) - 2 := by omega
      have p7 : (2 : Int) ≤ (n1 : Int) := by omega
      have p2 : (n1 : Int) - 2 ≤ (c7 : Int) := by omega
      have p3 : (n1 : Int) - 2 ≤ (n1 : Int) := by omega
      have p4 : ((n1 : Int) - 2).toNat = n1 - 2 := by omega
      have p5 : ¬ c7 = n1 - 2 := by omega
      have p6 : ¬ n1 = n1 - 2 := by omega
      obtain ⟨M3, hM3⟩ : ∃ M3, ((chk b).drop (n1 - 2)).take (n1 - (n1 - 2)) = M3 := ⟨_, rfl⟩
      have hRy0 := (hRp.out _ _ _ hI9.out).part (n1 - 2) (n1 - (n1 - 2)) (c7 - (n1 - 2)) (by omega) (by omega)
      have hl3 : M3.length = n1 - (n1 - 2) := by rw [← hM3]; exact hRy0.1
      have hRy : Hid (∀ (v' : Value) (L' : List UInt8) (w' : World), Grw w4 (Value.slice A9 n9 c9) w2.heap.size v' L' w' → Rd w' 1 (Value.slice (some ⟨g7, n1 - 2, none⟩) (n1 - (n1 - 2)) (c7 - (n1 - 2))) (n1 - (n1 - 2)) (u8s M3)) := Lib.hid (fun v' L' w' hg => by have h := ((hRp.out _ _ _ hg).part (n1 - 2) (n1 - (n1 - 2)) (c7 - (n1 - 2)) (by omega) (by omega)).2; rw [Nat.zero_add] at h; rw [← hM3]; exact h)
      clear hRy0
      replace hM3 := Lib.hid hM3
      replace hl3 := Lib.hid hl3
      have hone : Hid (∀ w' : World, Rd (w'.alloc (.cells #[.int .u8 120] 5)) 1 (.slice (some ⟨w'.heap.size, 0, none⟩) 1 1) 1 (u8s [120])) := Lib.hid (fun w' => Rd.one8 (c := 120) (Blk.new w' _ _))
      replace hM1 := Lib.hid hM1
      replace hl1 := Lib.hid hl1
      go_upto_region 11 with (fail)
      go_region_law (first | (refine stepR_grw _ _ (by rfl) (by rfl) M1 (by with_reducible exact hI9.out.drew) (by kernel_rfl) (by kernel_rfl) hl1.out (hRx.out _ _ _ (by with_reducible exact hI9.out.drew)) (by rw [hn9.out]; omega) ?_; intro v57 w5 hG5 hg5; obtain ⟨L5, hL5⟩ : ∃ L5, chk bf ++ M1 = L5 := ⟨_, rfl⟩; rw [hL5] at hG5; have hl5 : L5.length ≤ 60000 := (by rw [← hL5, List.length_append, hn9.out, hl1.out]; omega); replace hL5 := Lib.hid hL5; obtain ⟨A57, c57, rfl, hc57, -, -⟩ := Rd.own hG5.own; replace hG5 := Lib.hid hG5; clear hg5) | (refine stepR_grw _ _ (by rfl) (by rfl) M1 (by with_reducible exact (hI9.out.alloc _).drew) (by kernel_rfl) (by kernel_rfl) hl1.out (hRx.out _ _ _ (by with_reducible exact (hI9.out.alloc _).drew)) (by rw [hn9.out]; omega) ?_; intro v57 w5 hG5 hg5; obtain ⟨L5, hL5⟩ : ∃ L5, chk bf ++ M1 = L5 := ⟨_, rfl⟩; rw [hL5] at hG5; have hl5 : L5.length ≤ 60000 := (by rw [← hL5, List.length_append, hn9.out, hl1.out]; omega); replace hL5 := Lib.hid hL5; obtain ⟨A57, c57, rfl, hc57, -, -⟩ := Rd.own hG5.own; have hY := Lib.hid (Rd.one8 (c := 120) (Blk.grown8 (Blk.drew (Blk.new w4 5 #[.int .u8 ((120 : UInt8).toNat : Int)])) hg5 (hne9.out _ rfl))); replace hG5 := Lib.hid hG5; clear hg5) | (refine stepR_grw (m := 1) _ _ (by rfl) (by rfl) [120] (by with_reducible exact hG5.out.alloc _) (by kernel_rfl) (by kernel_rfl) (by rfl) (by with_reducible exact hone.out w5) (by omega) ?_; intro v59 w6 hG6 hg6; obtain ⟨L6, hL6⟩ : ∃ L6, L5 ++ [120] = L6 := ⟨_, rfl⟩; rw [hL6] at hG6; have hl6 : L6.length ≤ 60001 := (by rw [← hL6, List.length_append, List.length_singleton]; omega); replace hL6 := Lib.hid hL6; obtain ⟨A59, c59, rfl, hc59, -, -⟩ := Rd.own hG6.own; replace hG6 := Lib.hid hG6; clear hg6) | (refine stepR_grw (m := 1) _ _ (by rfl) (by rfl) [120] (by with_reducible exact hG5.out) (by kernel_rfl) (by kernel_rfl) (by rfl) (by with_reducible exact hY.out) (by omega) ?_; intro v59 w6 hG6 hg6; obtain ⟨L6, hL6⟩ : ∃ L6, L5 ++ [120] = L6 := ⟨_, rfl⟩; rw [hL6] at hG6; have hl6 : L6.length ≤ 60001 := (by rw [← hL6, List.length_append, List.length_singleton]; omega); replace hL6 := Lib.hid hL6; obtain ⟨A59, c59, rfl, hc59, -, -⟩ := Rd.own hG6.own; replace hG6 := Lib.hid hG6; clear hg6) | (refine stepR_grw _ _ (by rfl) (by rfl) M3 (by with_reducible exact hG6.out) (by kernel_rfl) (by kernel_rfl) hl3.out (hRy.out _ _ _ hG6.out) (by omega) ?_; intro v61 w7 hG7 hg7; obtain ⟨L7, hL7⟩ : ∃ L7, L6 ++ M3 = L7 := ⟨_, rfl⟩; rw [hL7] at hG7; replace hL7 := Lib.hid hL7; replace hG7 := Lib.hid hG7; clear hg7))
      all_goals (
        obtain ⟨AL, cL, hvL, hoL, hbL⟩ := hcut.out _ _ _ hG7.out (by rw [← hL7.out, ← hL6.out, ← hL5.out, ← hL.out, List.append_assoc, List.append_assoc]; congr 1; rw [← hM1.out, ← hM3.out]; show _ = (chk b).take _ ++ 120 :: (chk b).drop _; rw [hn1.out]; rw [List.take_of_length_le (l := (chk b).drop (n1 - 2)) (Nat.le_of_eq (by rw [List.length_drop, hn1.out]))]; rfl)
        replace hNv := Lib.hid hNv
        replace hoL := Lib.hid hoL
        replace hbL := Lib.hid hbL
        replace hvL := Lib.hid hvL
        go_wp2
        go_meet
        exact ⟨AL, cL, hvL.out, by rw [hNv.out], hoL.out, hbL.out⟩)
    · have qk0 : ((k : Int) % 5 == 0) = false := by rw [beq_eq_false_iff_ne]; omega
      have qk1 : ((k : Int) % 5 == 1) = true := by rw [beq_iff_eq]; omega
      rw [k5] at hL hN
      replace k5 := Lib.hid k5
      have hRx0 := (hRp.out _ _ _ hI9.out).part 0 (nh) c7 (by omega) (by omega)
      obtain ⟨M1, hM1⟩ : ∃ M1, ((chk b).drop 0).take (nh) = M1 := ⟨_, rfl⟩
      have hRx : Hid (∀ (v' : Value) (L' : List UInt8) (w' : World), Grw w4 (Value.slice A9 n9 c9) w2.heap.size v' L' w' → Rd w' 1 (Value.slice (some ⟨g7, 0, none⟩) (nh) c7) (nh) (u8s M1)) := Lib.hid (fun v' L' w' hg => by rw [← hM1]; exact ((hRp.out _ _ _ hg).part 0 (nh) c7 (by omega) (by omega)).2)
      have hl1 : M1.length = nh := by rw [← hM1]; exact hRx0.1
      clear hRx0
      have hNv : (N : Int) = (n9 : Int) + nh := by have h := hN.out; simp only [spoilN] at h; rw [hnh.out] at h; omega
      have hne9 : Hid (∀ g, g = w4.heap.size → (Value.slice A9 n9 c9).ownBlock ≠ some g) := Lib.hid (fun g hg e => by have := (World.ownsRow.lt hI9.out.own g e).2; omega)
      have p0 : IntKind.i64.wrap ((nh : Int) + 2) = (nh : Int) + 2 := IntWalk.i64_in _ (by omega)
      have p1 : (0 : Int) ≤ (nh : Int) + 2 := by omega
      have p2 : nh ≤ c7 := by omega
      have p3 : (nh : Int) + 2 ≤ (n1 : Int) := by omega
      have p4 : ((nh : Int) + 2).toNat = nh + 2 := by omega
      have p5 : ¬ c7 = nh + 2 := by omega
      obtain ⟨M3, hM3⟩ : ∃ M3, ((chk b).drop (nh + 2)).take (n1 - (nh + 2)) = M3 := ⟨_, rfl⟩
      have hRy0 := (hRp.out _ _ _ hI9.out).part (nh + 2) (n1 - (nh + 2)) (c7 - (nh + 2)) (by omega) (by omega)
      have hl3 : M3.length = n1 - (nh + 2) := by rw [← hM3]; exact hRy0.1
      have hRy : Hid (∀ (v' : Value) (L' : List UInt8) (w' : World), Grw w4 (Value.slice A9 n9 c9) w2.heap.size v' L' w' → Rd w' 1 (Value.slice (some ⟨g7, nh + 2, none⟩) (n1 - (nh + 2)) (c7 - (nh + 2))) (n1 - (nh + 2)) (u8s M3)) := Lib.hid (fun v' L' w' hg => by have h := ((hRp.out _ _ _ hg).part (nh + 2) (n1 - (nh + 2)) (c7 - (nh + 2)) (by omega) (by omega)).2; rw [Nat.zero_add] at h; rw [← hM3]; exact h)
      clear hRy0
      replace hM3 := Lib.hid hM3
      replace hl3 := Lib.hid hl3
      have hone : Hid (∀ w' : World, Rd (w'.alloc (.cells #[.int .u8 10] 5)) 1 (.slice (some ⟨w'.heap.size, 0, none⟩) 1 1) 1 (u8s [10])) := Lib.hid (fun w' => Rd.one8 (c := 10) (Blk.new w' _ _))
      replace hM1 := Lib.hid hM1
      replace hl1 := Lib.hid hl1
      go_upto_region 14 with (fail)
      go_region_law (first | (refine stepR_grw _ _ (by rfl) (by rfl) M1 (by with_reducible exact hI9.out.drew) (by kernel_rfl) (by kernel_rfl) hl1.out (hRx.out _ _ _ (by with_reducible exact hI9.out.drew)) (by rw [hn9.out]; omega) ?_; intro v57 w5 hG5 hg5; obtain ⟨L5, hL5⟩ : ∃ L5, chk bf ++ M1 = L5 := ⟨_, rfl⟩; rw [hL5] at hG5; have hl5 : L5.length ≤ 60000 := (by rw [← hL5, List.length_append, hn9.out, hl1.out]; omega); replace hL5 := Lib.hid hL5; obtain ⟨A57, c57, rfl, hc57, -, -⟩ := Rd.own hG5.own; replace hG5 := Lib.hid hG5; clear hg5) | (refine stepR_grw _ _ (by rfl) (by rfl) M1 (by with_reducible exact (hI9.out.alloc _).drew) (by kernel_rfl) (by kernel_rfl) hl1.out (hRx.out _ _ _ (by with_reducible exact (hI9.out.alloc _).drew)) (by rw [hn9.out]; omega) ?_; intro v57 w5 hG5 hg5; obtain ⟨L5, hL5⟩ : ∃ L5, chk bf ++ M1 = L5 := ⟨_, rfl⟩; rw [hL5] at hG5; have hl5 : L5.length ≤ 60000 := (by rw [← hL5, List.length_append, hn9.out, hl1.out]; omega); replace hL5 := Lib.hid hL5; obtain ⟨A57, c57, rfl, hc57, -, -⟩ := Rd.own hG5.own; have hY := Lib.hid (Rd.one8 (c := 10) (Blk.grown8 (Blk.drew (Blk.new w4 5 #[.int .u8 ((10 : UInt8).toNat : Int)])) hg5 (hne9.out _ rfl))); replace hG5 := Lib.hid hG5; clear hg5) | (refine stepR_grw (m := 1) _ _ (by rfl) (by rfl) [10] (by with_reducible exact hG5.out.alloc _) (by kernel_rfl) (by kernel_rfl) (by rfl) (by with_reducible exact hone.out w5) (by omega) ?_; intro v59 w6 hG6 hg6; obtain ⟨L6, hL6⟩ : ∃ L6, L5 ++ [10] = L6 := ⟨_, rfl⟩; rw [hL6] at hG6; have hl6 : L6.length ≤ 60001 := (by rw [← hL6, List.length_append, List.length_singleton]; omega); replace hL6 := Lib.hid hL6; obtain ⟨A59, c59, rfl, hc59, -, -⟩ := Rd.own hG6.own; replace hG6 := Lib.hid hG6; clear hg6) | (refine stepR_grw (m := 1) _ _ (by rfl) (by rfl) [10] (by with_reducible exact hG5.out) (by kernel_rfl) (by kernel_rfl) (by rfl) (by with_reducible exact hY.out) (by omega) ?_; intro v59 w6 hG6 hg6; obtain ⟨L6, hL6⟩ : ∃ L6, L5 ++ [10] = L6 := ⟨_, rfl⟩; rw [hL6] at hG6; have hl6 : L6.length ≤ 60001 := (by rw [← hL6, List.length_append, List.length_singleton]; omega); replace hL6 := Lib.hid hL6; obtain ⟨A59, c59, rfl, hc59, -, -⟩ := Rd.own hG6.own; replace hG6 := Lib.hid hG6; clear hg6) | (refine stepR_grw _ _ (by rfl) (by rfl) M3 (by with_reducible exact hG6.out) (by kernel_rfl) (by kernel_rfl) hl3.out (hRy.out _ _ _ hG6.out) (by omega) ?_; intro v61 w7 hG7 hg7; obtain ⟨L7, hL7⟩ : ∃ L7, L6 ++ M3 = L7 := ⟨_, rfl⟩; rw [hL7] at hG7; replace hL7 := Lib.hid hL7; replace hG7 := Lib.hid hG7; clear hg7))
      all_goals (
        obtain ⟨AL, cL, hvL, hoL, hbL⟩ := hcut.out _ _ _ hG7.out (by rw [← hL7.out, ← hL6.out, ← hL5.out, ← hL.out, List.append_assoc, List.append_assoc]; congr 1; rw [← hM1.out, ← hM3.out]; show _ = (chk b).take _ ++ 10 :: (chk b).drop _; rw [hnh.out]; rw [List.take_of_length_le (l := (chk b).drop (nh + 2)) (Nat.le_of_eq (by rw [List.length_drop, hn1.out]))]; rfl)
        replace hNv := Lib.hid hNv
        replace hoL := Lib.hid hoL
        replace hbL := Lib.hid hbL
        replace hvL := Lib.hid hvL
        go_wp2
        go_meet
        exact ⟨AL, cL, hvL.out, by rw [hNv.out], hoL.out, hbL.out⟩)
    · have qk0 : ((k : Int) % 5 == 0) = false := by rw [beq_eq_false_iff_ne]; omega
      have qk1 : ((k : Int) % 5 == 1) = false := by rw [beq_eq_false_iff_ne]; omega
      have qk2 : ((k : Int) % 5 == 2) = true := by rw [beq_iff_eq]; omega
      rw [k5] at hL hN
      replace k5 := Lib.hid k5
      have hRx0 := (hRp.out _ _ _ hI9.out).part 0 (nh) c7 (by omega) (by omega)
      obtain ⟨M1, hM1⟩ : ∃ M1, ((chk b).drop 0).take (nh) = M1 := ⟨_, rfl⟩
      have hRx : Hid (∀ (v' : Value) (L' : List UInt8) (w' : World), Grw w4 (Value.slice A9 n9 c9) w2.heap.size v' L' w' → Rd w' 1 (Value.slice (some ⟨g7, 0, none⟩) (nh) c7) (nh) (u8s M1)) := Lib.hid (fun v' L' w' hg => by rw [← hM1]; exact ((hRp.out _ _ _ hg).part 0 (nh) c7 (by omega) (by omega)).2)
      have hl1 : M1.length = nh := by rw [← hM1]; exact hRx0.1
      clear hRx0
      have hNv : (N : Int) = (n9 : Int) + nh := by have h := hN.out; simp only [spoilN] at h; rw [hnh.out] at h; omega
      have hne9 : Hid (∀ g, g = w4.heap.size → (Value.slice A9 n9 c9).ownBlock ≠ some g) := Lib.hid (fun g hg e => by have := (World.ownsRow.lt hI9.out.own g e).2; omega)
      have p2 : nh ≤ c7 := by omega
      have p3 : nh ≤ n1 := by omega
      have p5 : ¬ c7 = nh := by omega
      obtain ⟨M3, hM3⟩ : ∃ M3, ((chk b).drop (nh)).take (n1 - nh) = M3 := ⟨_, rfl⟩
      have hRy0 := (hRp.out _ _ _ hI9.out).part (nh) (n1 - nh) (c7 - (nh)) (by omega) (by omega)
      have hl3 : M3.length = n1 - nh := by rw [← hM3]; exact hRy0.1
      have hRy : Hid (∀ (v' : Value) (L' : List UInt8) (w' : World), Grw w4 (Value.slice A9 n9 c9) w2.heap.size v' L' w' → Rd w' 1 (Value.slice (some ⟨g7, nh, none⟩) (n1 - nh) (c7 - (nh))) (n1 - nh) (u8s M3)) := Lib.hid (fun v' L' w' hg => by have h := ((hRp.out _ _ _ hg).part (nh) (n1 - nh) (c7 - (nh)) (by omega) (by omega)).2; rw [Nat.zero_add] at h; rw [← hM3]; exact h)
      clear hRy0
      replace hM3 := Lib.hid hM3
      replace hl3 := Lib.hid hl3
      have hone : Hid (∀ w' : World, Rd (w'.alloc (.cells #[.int .u8 32] 5)) 1 (.slice (some ⟨w'.heap.size, 0, none⟩) 1 1) 1 (u8s [32])) := Lib.hid (fun w' => Rd.one8 (c := 32) (Blk.new w' _ _))
      replace hM1 := Lib.hid hM1
      replace hl1 := Lib.hid hl1
      go_upto_region 17 with (fail)
      go_region_law (first | (refine stepR_grw _ _ (by rfl) (by rfl) M1 (by with_reducible exact hI9.out.drew) (by kernel_rfl) (by kernel_rfl) hl1.out (hRx.out _ _ _ (by with_reducible exact hI9.out.drew)) (by rw [hn9.out]; omega) ?_; intro v57 w5 hG5 hg5; obtain ⟨L5, hL5⟩ : ∃ L5, chk bf ++ M1 = L5 := ⟨_, rfl⟩; rw [hL5] at hG5; have hl5 : L5.length ≤ 60000 := (by rw [← hL5, List.length_append, hn9.out, hl1.out]; omega); replace hL5 := Lib.hid hL5; obtain ⟨A57, c57, rfl, hc57, -, -⟩ := Rd.own hG5.own; replace hG5 := Lib.hid hG5; clear hg5) | (refine stepR_grw _ _ (by rfl) (by rfl) M1 (by with_reducible exact (hI9.out.alloc _).drew) (by kernel_rfl) (by kernel_rfl) hl1.out (hRx.out _ _ _ (by with_reducible exact (hI9.out.alloc _).drew)) (by rw [hn9.out]; omega) ?_; intro v57 w5 hG5 hg5; obtain ⟨L5, hL5⟩ : ∃ L5, chk bf ++ M1 = L5 := ⟨_, rfl⟩; rw [hL5] at hG5; have hl5 : L5.length ≤ 60000 := (by rw [← hL5, List.length_append, hn9.out, hl1.out]; omega); replace hL5 := Lib.hid hL5; obtain ⟨A57, c57, rfl, hc57, -, -⟩ := Rd.own hG5.own; have hY := Lib.hid (Rd.one8 (c := 32) (Blk.grown8 (Blk.drew (Blk.new w4 5 #[.int .u8 ((32 : UInt8).toNat : Int)])) hg5 (hne9.out _ rfl))); replace hG5 := Lib.hid hG5; clear hg5) | (refine stepR_grw (m := 1) _ _ (by rfl) (by rfl) [32] (by with_reducible exact hG5.out.alloc _) (by kernel_rfl) (by kernel_rfl) (by rfl) (by with_reducible exact hone.out w5) (by omega) ?_; intro v59 w6 hG6 hg6; obtain ⟨L6, hL6⟩ : ∃ L6, L5 ++ [32] = L6 := ⟨_, rfl⟩; rw [hL6] at hG6; have hl6 : L6.length ≤ 60001 := (by rw [← hL6, List.length_append, List.length_singleton]; omega); replace hL6 := Lib.hid hL6; obtain ⟨A59, c59, rfl, hc59, -, -⟩ := Rd.own hG6.own; replace hG6 := Lib.hid hG6; clear hg6) | (refine stepR_grw (m := 1) _ _ (by rfl) (by rfl) [32] (by with_reducible exact hG5.out) (by kernel_rfl) (by kernel_rfl) (by rfl) (by with_reducible exact hY.out) (by omega) ?_; intro v59 w6 hG6 hg6; obtain ⟨L6, hL6⟩ : ∃ L6, L5 ++ [32] = L6 := ⟨_, rfl⟩; rw [hL6] at hG6; have hl6 : L6.length ≤ 60001 := (by rw [← hL6, List.length_append, List.length_singleton]; omega); replace hL6 := Lib.hid hL6; obtain ⟨A59, c59, rfl, hc59, -, -⟩ := Rd.own hG6.own; replace hG6 := Lib.hid hG6; clear hg6) | (refine stepR_grw _ _ (by rfl) (by rfl) M3 (by with_reducible exact hG6.out) (by kernel_rfl) (by kernel_rfl) hl3.out (hRy.out _ _ _ hG6.out) (by omega) ?_; intro v61 w7 hG7 hg7; obtain ⟨L7, hL7⟩ : ∃ L7, L6 ++ M3 = L7 := ⟨_, rfl⟩; rw [hL7] at hG7; replace hL7 := Lib.hid hL7; replace hG7 := Lib.hid hG7; clear hg7))
      all_goals (
        obtain ⟨AL, cL, hvL, hoL, hbL⟩ := hcut.out _ _ _ hG7.out (by rw [← hL7.out, ← hL6.out, ← hL5.out, ← hL.out, List.append_assoc, List.append_assoc]; congr 1; rw [← hM1.out, ← hM3.out]; show _ = (chk b).take _ ++ 32 :: (chk b).drop _; rw [hnh.out]; rw [List.take_of_length_le (l := (chk b).drop (nh)) (Nat.le_of_eq (by rw [List.length_drop, hn1.out]))]; rfl)
        replace hNv := Lib.hid hNv
        replace hoL := Lib.hid hoL
        replace hbL := Lib.hid hbL
        replace hvL := Lib.hid hvL
        go_wp2
        go_meet
        exact ⟨AL, cL, hvL.out, by rw [hNv.out], hoL.out, hbL.out⟩)
    · have qk0 : ((k : Int) % 5 == 0) = false := by rw [beq_eq_false_iff_ne]; omega
      have qk1 : ((k : Int) % 5 == 1) = false := by rw [beq_eq_false_iff_ne]; omega
      have qk2 : ((k : Int) % 5 == 2) = false := by rw [beq_eq_false_iff_ne]; omega
      have qk3 : ((k : Int) % 5 == 3) = true := by rw [beq_iff_eq]; omega
      rw [k5] at hL hN
      replace k5 := Lib.hid k5
      have hRx0 := (hRp.out _ _ _ hI9.out).part 0 (n1 - 2) c7 (by omega) (by omega)
      obtain ⟨M1, hM1⟩ : ∃ M1, ((chk b).drop 0).take (n1 - 2) = M1 := ⟨_, rfl⟩
      have hRx : Hid (∀ (v' : Value) (L' : List UInt8) (w' : World), Grw w4 (Value.slice A9 n9 c9) w2.heap.size v' L' w' → Rd w' 1 (Value.slice (some ⟨g7, 0, none⟩) (n1 - 2) c7) (n1 - 2) (u8s M1)) := Lib.hid (fun v' L' w' hg => by rw [← hM1]; exact ((hRp.out _ _ _ hg).part 0 (n1 - 2) c7 (by omega) (by omega)).2)
      have hl1 : M1.length = n1 - 2 := by rw [← hM1]; exact hRx0.1
      clear hRx0
      have hNv : (N : Int) = (n9 : Int) + ((n1 : Int) - 2) := by have h := hN.out; simp only [spoilN] at h; rw [hn1.out] at h; omega
      have hone : Hid (∀ w' : World, Rd (w'.alloc (.cells #[.int .u8 10] 5)) 1 (.slice (some ⟨w'.heap.size, 0, none⟩) 1 1) 1 (u8s [10])) := Lib.hid (fun w' => Rd.one8 (c := 10) (Blk.new w' _ _))
      replace hM1 := Lib.hid hM1
      replace hl1 := Lib.hid hl1
      go_wp2_with (at_builtin; first | (refine step_grw _ _ (by rfl) (by rfl) M1 (by with_reducible exact hI9.out) (by rfl) (by rfl) hl1.out (hRx.out _ _ _ (by with_reducible exact hI9.out)) (by rw [hn9.out]; omega) ?_; intro v57 w5 hG5 hg5; obtain ⟨L5, hL5⟩ : ∃ L5, chk bf ++ M1 = L5 := ⟨_, rfl⟩; rw [hL5] at hG5; have hl5 : L5.length ≤ 60000 := (by rw [← hL5, List.length_append, hn9.out, hl1.out]; omega); replace hL5 := Lib.hid hL5; obtain ⟨A57, c57, rfl, hc57, -, -⟩ := Rd.own hG5.own; replace hG5 := Lib.hid hG5; clear hg5) | (refine step_grw (m := 1) _ _ (by rfl) (by rfl) [10] (by with_reducible exact hG5.out.alloc _) (by rfl) (by rfl) (by rfl) (by with_reducible exact hone.out w5) (by omega) ?_; intro v59 w6 hG6 hg6; obtain ⟨L6, hL6⟩ : ∃ L6, L5 ++ [10] = L6 := ⟨_, rfl⟩; rw [hL6] at hG6; have hl6 : L6.length ≤ 60001 := (by rw [← hL6, List.length_append, List.length_singleton]; omega); replace hL6 := Lib.hid hL6; obtain ⟨A59, c59, rfl, hc59, -, -⟩ := Rd.own hG6.own; replace hG6 := Lib.hid hG6; clear hg6))
      obtain ⟨AL, cL, hvL, hoL, hbL⟩ := hcut.out _ _ _ hG6.out (by rw [← hL6.out, ← hL5.out, ← hM1.out, ← hL.out, List.append_assoc]; congr 1; show _ = (chk b).take ((chk b).length - _) ++ _; rw [hn1.out]; rfl)
      replace hNv := Lib.hid hNv
      replace hoL := Lib.hid hoL
      replace hbL := Lib.hid hbL
      replace hvL := Lib.hid hvL
      go_wp2
      go_meet
      exact ⟨AL, cL, hvL.out, by rw [hNv.out], hoL.out, hbL.out⟩
    · have qk0 : ((k : Int) % 5 == 0) = false := by rw [beq_eq_false_iff_ne]; omega
      have qk1 : ((k : Int) % 5 == 1) = false := by rw [beq_eq_false_iff_ne]; omega
      have qk2 : ((k : Int) % 5 == 2) = false := by rw [beq_eq_false_iff_ne]; omega
      have qk3 : ((k : Int) % 5 == 3) = false := by rw [beq_eq_false_iff_ne]; omega
      rw [k5] at hL hN
      replace k5 := Lib.hid k5
      have hRx0 := (hRp.out _ _ _ hI9.out).part 0 (n1 - 1) c7 (by omega) (by omega)
      obtain ⟨M1, hM1⟩ : ∃ M1, ((chk b).drop 0).take (n1 - 1) = M1 := ⟨_, rfl⟩
      have hRx : Hid (∀ (v' : Value) (L' : List UInt8) (w' : World), Grw w4 (Value.slice A9 n9 c9) w2.heap.size v' L' w' → Rd w' 1 (Value.slice (some ⟨g7, 0, none⟩) (n1 - 1) c7) (n1 - 1) (u8s M1)) := Lib.hid (fun v' L' w' hg => by rw [← hM1]; exact ((hRp.out _ _ _ hg).part 0 (n1 - 1) c7 (by omega) (by omega)).2)
      have hl1 : M1.length = n1 - 1 := by rw [← hM1]; exact hRx0.1
      clear hRx0
      have hNv : (N : Int) = (n9 : Int) + ((n1 : Int) - 1) := by have h := hN.out; simp only [spoilN] at h; rw [hn1.out] at h; omega
      have hone : Hid (∀ w' : World, Rd (w'.alloc (.cells #[.int .u8 13] 5)) 1 (.slice (some ⟨w'.heap.size, 0, none⟩) 1 1) 1 (u8s [13])) := Lib.hid (fun w' => Rd.one8 (c := 13) (Blk.new w' _ _))
      replace hM1 := Lib.hid hM1
      replace hl1 := Lib.hid hl1
      go_wp2_with (at_builtin; first | (refine step_grw _ _ (by rfl) (by rfl) M1 (by with_reducible exact hI9.out) (by rfl) (by rfl) hl1.out (hRx.out _ _ _ (by with_reducible exact hI9.out)) (by rw [hn9.out]; omega) ?_; intro v57 w5 hG5 hg5; obtain ⟨L5, hL5⟩ : ∃ L5, chk bf ++ M1 = L5 := ⟨_, rfl⟩; rw [hL5] at hG5; have hl5 : L5.length ≤ 60000 := (by rw [← hL5, List.length_append, hn9.out, hl1.out]; omega); replace hL5 := Lib.hid hL5; obtain ⟨A57, c57, rfl, hc57, -, -⟩ := Rd.own hG5.own; replace hG5 := Lib.hid hG5; clear hg5) | (refine step_grw (m := 1) _ _ (by rfl) (by rfl) [13] (by with_reducible exact hG5.out.alloc _) (by rfl) (by rfl) (by rfl) (by with_reducible exact hone.out w5) (by omega) ?_; intro v59 w6 hG6 hg6; obtain ⟨L6, hL6⟩ : ∃ L6, L5 ++ [13] = L6 := ⟨_, rfl⟩; rw [hL6] at hG6; have hl6 : L6.length ≤ 60001 := (by rw [← hL6, List.length_append, List.length_singleton]; omega); replace hL6 := Lib.hid hL6; obtain ⟨A59, c59, rfl, hc59, -, -⟩ := Rd.own hG6.own; replace hG6 := Lib.hid hG6; clear hg6))
      obtain ⟨AL, cL, hvL, hoL, hbL⟩ := hcut.out _ _ _ hG6.out (by rw [← hL6.out, ← hL5.out, ← hM1.out, ← hL.out, List.append_assoc]; congr 1; show _ = (chk b).take ((chk b).length - _) ++ _; rw [hn1.out]; rfl)
      replace hNv := Lib.hid hNv
      replace hoL := Lib.hid hoL
      replace hbL := Lib.hid hbL
      replace hvL := Lib.hid hvL
      go_wp2
      go_meet
      exact ⟨AL, cL, hvL.out, by rw [hNv.out], hoL.out, hbL.out⟩
  case rest =>
    obtain ⟨A, c, rfl, rfl, hoI, hbI⟩ := hcut
    clear hI9 hRp hlt9 hBW hB4 hB3 hb2 hb1 ho7 hcl7 hw1 hw2

    obtain ⟨s, hwr, hsb, hs8⟩ := spoilt (bf := bf) (b := b) (k % 5) (by omega) hne.out
    rw [hL.out, hn9.out, hN.out] at hwr
    obtain ⟨WL, hWL⟩ : ∃ WL, bf ++ (if k % 5 = 0 ∨ 2 < k % 5 then b else []) = WL := ⟨_, rfl⟩
    rw [hWL] at hwr
    have hLl : L.length ≤ 60000 := by
      rw [← hL.out, List.length_append, hn9.out]
      have h1 : (spoil b (k % 5)).length ≤ n1 + 1 := by
        have hh := hn1.out
        unfold spoil
        split <;> simp only [List.length_append, List.length_take, List.length_drop, List.length_cons, List.length_nil, hh] <;> omega
      omega
    have hD1 := Decv.new wc
    have hs1 := alloc_size' wc (.cells (cells 0 0 0 0 0 (.slice none 0 0) false 0 (.slice none 0 0) .nilIface) 68)
    have hbb := (Below.refl wc.heap.size wc).alloc (Nat.le_refl _) (.cells (cells 0 0 0 0 0 (.slice none 0 0) false 0 (.slice none 0 0) .nilIface) 68)
    have hB1 := Below.next hbI hbI.size hbb
    have hW := write_any zero hD1 L A c (Rd.own (own_below hoI hbb)) (fun _ j hj e => by have := hoI.lt hj; omega) (by omega)
    unfold WriteR at hW
    rw [hwr] at hW
    simp only at hW
    rw [hsb] at hW
    have hs9 := hbI.size
    replace hW := Lib.hid hW
    replace hs1 := Lib.hid hs1
    replace hB1 := Lib.hid hB1
    clear hD1 hbb
    go_wp2_with fail
    refine (cnew_any _).mono ?_
    rintro e w5 ⟨rfl, rfl⟩
    have hgB := hs1.out
    generalize wc.alloc (.cells (cells 0 0 0 0 0 (.slice none 0 0) false 0 (.slice none 0 0) .nilIface) 68) = w5 at *
    go_wp2_with fail
    refine hW.out.mono ?_
    rintro e w6 ⟨vb, F', rfl, hvb, hofb, hD6, hF', hk6⟩
    have hs6 := hk6.size
    have hB6 : Below W0.heap.size W0 w6 := hB1.out.trans (hk6.toBelow (by omega) (fun j e => by omega))
    have hb6s := hB6.size
    have hvlt := fun j (hj : vb.ownBlock = some j) => World.ownsRow.lt hvb j hj
    have hst : ∀ l, Ck.wr s l = (s, [], 0) := fun l => wr_stop (.inl (by omega)) l
    have hW2 : ∀ (w' : World), Below w6.heap.size w6 w' → ∀ A' c', Rd w' 1 (.slice A' 5 c') 5 (u8s [48, 13, 10, 13, 10]) → (∀ j, (Value.slice A' 5 c').ownBlock = some j → w6.heap.size ≤ j) → Calls Tryd.prog 13 #[.pointer (some ⟨wc.heap.size, 0, none⟩), .slice A' 5 c'] w' fun e w'' =>
        ∃ A3 c3, e = .returned (.tuple #[.slice A3 0 c3, .int .i64 0, errV 33]) ∧ Kp F' w' w'' ∧ ∃ F3, Decv w'' wc.heap.size F3 s (errV 33) := fun w' hb A' c' hr ho => by
      refine (write_any s (by rw [hsb]; exact hD6.below hb) [48, 13, 10, 13, 10] A' c' hr (fun _ j hj e => by have := ho j hj; have := hD6.2.1 j e; omega) (by decide)).mono ?_
      unfold WriteR
      rw [hst]
      simp only
      rw [hsb]
      rintro e w'' ⟨v3, F3, rfl, ho3, -, hD3, -, hk3⟩
      obtain ⟨A3, c3, rfl, -⟩ := Rd.own ho3
      exact ⟨A3, c3, rfl, hk3, F3, hD3⟩
    have hRf := hR1.out.below hB6
    have hmade := World.ownsRow_made (base := w6.heap.size) (size := 1) (e := 5) w6 #[] 0 (Nat.le_refl _) (Nat.zero_le _) rfl
    have hG6 := Lib.hid (Grw.init (B := w6.heap.size) (L := []) hmade (by rw [alloc_size']; omega))
    have hRf6 := Lib.hid (hRf.below ((Below.refl _ _).alloc (Nat.le_refl _) (.cells #[] 5)))
    have hRb6 : Hid (∀ w', Below w6.heap.size w6 w' → Rd w' 1 (.slice A2 b.length c2) b.length (u8s b)) := Lib.hid (fun w' hb => (hR2.out.below hB6).below hb)
    have kc := fun (w : World) => Lib.run_convert_bytes_const (P := Tryd.prog) w 30 5 #[.int .u8 48, .int .u8 13, .int .u8 10, .int .u8 13, .int .u8 10] 5 5 Tryd.underlying30 Tryd.underlying5
    have hfin : ∀ w8 v8, Grw (w6.alloc (.cells #[] 5)) (.slice (some ⟨w6.heap.size, 0, none⟩) 0 0) w6.heap.size v8 WL w8 →
        Calls Tryd.prog 13 #[.pointer (some ⟨wc.heap.size, 0, none⟩), .slice (some ⟨w8.heap.size, 0, none⟩) 5 5] (w8.alloc (.cells #[.int .u8 48, .int .u8 13, .int .u8 10, .int .u8 13, .int .u8 10] 5 (5, 6))) fun e w'' =>
        ∃ A3 c3, e = .returned (.tuple #[.slice A3 0 c3, .int .i64 0, errV 33]) ∧ Below W0.heap.size W0 w'' ∧ Calls Tryd.prog 15 #[vb, v8] w'' (fun e w' => e = .returned (.bool true) ∧ w' = w'') ∧
          Calls Tryd.prog 17 #[.pointer (some ⟨wc.heap.size, 0, none⟩)] w'' (fun e w' => e = .returned (.bool false) ∧ w' = w'') := fun w8 v8 hg => by
      have hb8 : Below w6.heap.size w6 w8 := ((Below.refl _ _).alloc (Nat.le_refl _) _).trans (hg.below (fun j e => by cases e; exact Nat.le_refl _))
      have hb8s := hb8.size
      have hb9 : Below w6.heap.size w6 (w8.alloc (.cells #[.int .u8 48, .int .u8 13, .int .u8 10, .int .u8 13, .int .u8 10] 5 (5, 6))) := hb8.alloc hb8s _
      have hmk := fun j => World.cell?_alloc_mark w8 #[.int .u8 48, .int .u8 13, .int .u8 10, .int .u8 13, .int .u8 10] 5 (5, 6) j
      have hbx := (Below.refl w8.heap.size w8).alloc (Nat.le_refl _) (.cells #[.int .u8 48, .int .u8 13, .int .u8 10, .int .u8 13, .int .u8 10] 5 (5, 6))
      refine (hW2 _ hb9 _ _ ⟨_, _, rfl, Nat.le_refl _, rfl, fun _ => ⟨w8.heap.size, 0, rfl, by rw [alloc_size']; omega, fun j u hu => by rw [Nat.zero_add, hmk j, show (#[.int .u8 48, .int .u8 13, .int .u8 10, .int .u8 13, .int .u8 10] : Array Value) = (u8s [48, 13, 10, 13, 10]).toArray from rfl, List.getElem?_toArray]; exact hu⟩⟩ (fun j e => by cases e; exact hb8s)).mono ?_
      rintro e w'' ⟨A3, c3, rfl, hk3, F3, hD3⟩
      have hvb' : Own w'' wc.heap.size 5 1 vb WL.length (u8s WL) := Own.kp ((own_below hvb hb9).base (by omega)) (fun j hj e => hofb j hj e) hk3
      have hv8 : Own w'' w6.heap.size 5 1 v8 WL.length (u8s WL) := Own.kp (own_below hg.own hbx) (fun j hj e => by have h1 := (World.ownsRow.lt hg.own j hj).1; have h2 := hD6.2.1 j e; omega) hk3
      have hby := bytes_any w'' hvb' hv8
      rw [decide_eq_true rfl] at hby
      have hFlt : ∀ j, F' j → W0.heap.size ≤ j := fun j e => by rcases hF' j e with h | h <;> omega
      refine ⟨A3, c3, rfl, (hB6.trans (hb9.mono hb6s)).trans (hk3.toBelow (by rw [alloc_size']; omega) hFlt), hby, ?_⟩
      have h := cdone_any hD3
      rw [decide_eq_false hs8] at h
      exact h
    have hRbw : Hid (∀ v8 w8, Grw (w6.alloc (.cells #[] 5)) (.slice (some ⟨w6.heap.size, 0, none⟩) 0 0) w6.heap.size v8 bf w8 → Below w6.heap.size w6 w8) := Lib.hid (fun v8 w8 hg => ((Below.refl _ _).alloc (Nat.le_refl _) _).trans (hg.below (fun j e => by cases e; exact Nat.le_refl _)))
    replace hW2 := Lib.hid hW2
    replace hD6 := Lib.hid hD6
    replace hvb := Lib.hid hvb
    replace hofb := Lib.hid hofb
    replace hF' := Lib.hid hF'
    replace hk6 := Lib.hid hk6
    replace hB6 := Lib.hid hB6
    replace hvlt := Lib.hid hvlt
    replace hmade := Lib.hid hmade
    replace hwr := Lib.hid hwr
    replace hst := Lib.hid hst
    replace hWL := Lib.hid hWL
    replace hsb := Lib.hid hsb
    clear hRf
    replace hfin := Lib.hid hfin
    have kk : k % 5 = 0 ∨ 2 < k % 5 ∨ ¬ (k % 5 = 0 ∨ 2 < k % 5) := by omega
    rcases kk with kk | kk | kk
    · have qk0 : ((k : Int) % 5 == 0) = true := by rw [beq_iff_eq]; omega
      have hwl : bf ++ b = WL := by rw [← hWL.out, if_pos (.inl kk)]
      replace kk := Lib.hid kk
      replace hwl := Lib.hid hwl
      go_wp2_with (at_builtin; first | (refine step_grw _ _ rfl rfl bf hG6.out rfl rfl rfl hRf6.out (by rw [List.length_nil]; omega) ?_; intro v9 w7 hG7 hg7; rw [List.nil_append] at hG7; obtain ⟨A9', c9', rfl, hc9', -, -⟩ := Rd.own hG7.own; have hb7 := hRbw.out _ _ hG7; replace hG7 := Lib.hid hG7; clear hg7) | (refine step_grw _ _ rfl rfl b hG7.out rfl rfl rfl (hRb6.out _ hb7) (by omega) ?_; intro v10 w8 hG8 hg8; rw [hwl.out] at hG8; obtain ⟨A10', c10', rfl, hc10', -, -⟩ := Rd.own hG8.own; have hF8 := Lib.hid (hfin.out _ _ hG8); clear hg8 hG8))
      refine hF8.out.mono ?_
      rintro e w9 ⟨A3, c3, rfl, hB9, hby, hdn⟩
      replace hby := Lib.hid hby
      replace hdn := Lib.hid hdn
      replace hB9 := Lib.hid hB9
      go_wp2_with fail
      refine (is_any 33 33 _).mono ?_
      rintro e w10 ⟨rfl, rfl⟩
      go_wp2_with fail
      refine hby.out.mono ?_
      rintro e w10 ⟨rfl, rfl⟩
      go_wp2_with fail
      refine hdn.out.mono ?_
      rintro e w10 ⟨rfl, rfl⟩
      go_wp2_with fail
      refine (is_any 33 33 _).mono ?_
      rintro e w10 ⟨rfl, rfl⟩
      go_wp2
      go_ret
      exact ⟨rfl, hB9.out⟩
    · have qk0 : ((k : Int) % 5 == 0) = false := by rw [beq_eq_false_iff_ne]; omega
      have qk1 : (2 : Int) < (k : Int) % 5 := by omega
      have hwl : bf ++ b = WL := by rw [← hWL.out, if_pos (.inr kk)]
      replace kk := Lib.hid kk
      replace hwl := Lib.hid hwl
      go_wp2_with (at_builtin; first | (refine step_grw _ _ rfl rfl bf hG6.out rfl rfl rfl hRf6.out (by rw [List.length_nil]; omega) ?_; intro v9 w7 hG7 hg7; rw [List.nil_append] at hG7; obtain ⟨A9', c9', rfl, hc9', -, -⟩ := Rd.own hG7.own; have hb7 := hRbw.out _ _ hG7; replace hG7 := Lib.hid hG7; clear hg7) | (refine step_grw _ _ rfl rfl b hG7.out rfl rfl rfl (hRb6.out _ hb7) (by omega) ?_; intro v10 w8 hG8 hg8; rw [hwl.out] at hG8; obtain ⟨A10', c10', rfl, hc10', -, -⟩ := Rd.own hG8.own; have hF8 := Lib.hid (hfin.out _ _ hG8); clear hg8 hG8))
      refine hF8.out.mono ?_
      rintro e w9 ⟨A3, c3, rfl, hB9, hby, hdn⟩
      replace hby := Lib.hid hby
      replace hdn := Lib.hid hdn
      replace hB9 := Lib.hid hB9
      go_wp2_with fail
      refine (is_any 33 33 _).mono ?_
      rintro e w10 ⟨rfl, rfl⟩
      go_wp2_with fail
      refine hby.out.mono ?_
      rintro e w10 ⟨rfl, rfl⟩
      go_wp2_with fail
      refine hdn.out.mono ?_
      rintro e w10 ⟨rfl, rfl⟩
      go_wp2_with fail
      refine (is_any 33 33 _).mono ?_
      rintro e w10 ⟨rfl, rfl⟩
      go_wp2
      go_ret
      exact ⟨rfl, hB9.out⟩
    · have qk0 : ((k : Int) % 5 == 0) = false := by rw [beq_eq_false_iff_ne]; omega
      have qk1 : ¬ (2 : Int) < (k : Int) % 5 := by omega
      have hwl : bf = WL := by rw [← hWL.out, if_neg kk, List.append_nil]
      replace kk := Lib.hid kk
      replace hwl := Lib.hid hwl
      go_wp2_with (at_builtin; first | (refine step_grw _ _ rfl rfl bf hG6.out rfl rfl rfl hRf6.out (by rw [List.length_nil]; omega) ?_; intro v9 w7 hG7 hg7; rw [List.nil_append, hwl.out] at hG7; obtain ⟨A9', c9', rfl, hc9', -, -⟩ := Rd.own hG7.own; have hF8 := Lib.hid (hfin.out _ _ hG7); clear hg7 hG7))
      refine hF8.out.mono ?_
      rintro e w9 ⟨A3, c3, rfl, hB9, hby, hdn⟩
      replace hby := Lib.hid hby
      replace hdn := Lib.hid hdn
      replace hB9 := Lib.hid hB9
      go_wp2_with fail
      refine (is_any 33 33 _).mono ?_
      rintro e w10 ⟨rfl, rfl⟩
      go_wp2_with fail
      refine hby.out.mono ?_
      rintro e w10 ⟨rfl, rfl⟩
      go_wp2_with fail
      refine hdn.out.mono ?_
      rintro e w10 ⟨rfl, rfl⟩
      go_wp2_with fail
      refine (is_any 33 33 _).mono ?_
      rintro e w10 ⟨rfl, rfl⟩
      go_wp2
      go_ret
      exact ⟨rfl, hB9.out⟩
end Go.Proofs.YtbegpdhkjfdjbaaDoor
