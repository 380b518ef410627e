/-
  Layer 7: the walk of ChunkedLarge.
-/
import Derived.Test.YtbegpdhkjfdjbaaDoorCLargeS
import Derived.Test.YtbegpdhkjfdjbaaDoorCRetW
import Derived.Deep.OwnRows
import Derived.Deep.RegionHeld3
namespace Go.Proofs.YtbegpdhkjfdjbaaDoor
open Go.RowKit Syn Ck

theorem str5 : (⟨#[48, 13, 10, 13, 10]⟩ : ByteArray) = str [48, 13, 10, 13, 10] := rfl
/-- append of bytes onto an owned row, in a region that draws its order. -/
theorem stepR_pushW {ops : Array Oper} {o : Oper} {a : Act} {K : Act → World → Prop} {Q : Exit → Act → World → Prop} {E : Prop} {w : World} (s x : Operand)
    (hgd : o.guard = none) (ho : o.op = .call { callee := .builtin .append, args := #[s, x], argTypes := #[30, 30] })
    {v : Value} {B c m : Nat} {L : List UInt8} (M : List UInt8) {A : Option Addr} (hown : Own w B 5 1 v L.length (u8s L)) (hs : a.eval s = v) (hx : a.eval x = .slice A m c) (hm : M.length = m) (hR : Rd w 1 (.slice A m c) m (u8s M)) (hn : L.length + m ≤ 10000000000) (hB : B ≤ w.heap.size)
    (h : ∀ v' w', Own w' B 5 1 v' (L ++ M).length (u8s (L ++ M)) → Below B w w' → K (a.put o.dst v') w') :
    if Region.wanted o (yielded ops a.tmps) = true then Oper.wp Tryd.prog o a w K Q else E := by
  have hwt : Region.wanted o (yielded ops a.tmps) = true := by simp [Region.wanted, hgd]
  rw [if_pos hwt]
  subst hm
  obtain ⟨v', w', hr, h2, h3, h4⟩ := run_push8 w o.type hown hR hn hB
  unfold Oper.wp execOp
  simp only [ho, resolve, invoke, builtin, Sem.run_bind, Sem.run_pure, Result.andThen_ok, List.map_toArray, List.map_cons, List.map_nil, hs, hx, hr]
  exact h v' w' h2 (below_grown hown h3 hB)
/-- .. of a text. -/
theorem stepR_strW {ops : Array Oper} {o : Oper} {a : Act} {K : Act → World → Prop} {Q : Exit → Act → World → Prop} {E : Prop} {w : World} (sl x : Operand)
    (hgd : o.guard = none) (ho : o.op = .call { callee := .builtin .append, args := #[sl, x], argTypes := #[30, 9] })
    {v : Value} {B : Nat} {L s : List UInt8} (hown : Own w B 5 1 v L.length (u8s L)) (hs : a.eval sl = v) (hx : a.eval x = .string (str s)) (hn : L.length + s.length ≤ 10000000000) (hB : B ≤ w.heap.size)
    (h : ∀ v' w', Own w' B 5 1 v' (L ++ s).length (u8s (L ++ s)) → Below B w w' → K (a.put o.dst v') w') :
    if Region.wanted o (yielded ops a.tmps) = true then Oper.wp Tryd.prog o a w K Q else E := by
  have hwt : Region.wanted o (yielded ops a.tmps) = true := by simp [Region.wanted, hgd]
  rw [if_pos hwt]
  have hi := infoU8
  cases hP : Tryd.prog.info? 5 with
  | none => rw [hP] at hi; cases hi
  | some i =>
    rw [hP] at hi
    simp only [Option.map_some, Option.some.injEq, Prod.mk.injEq] at hi
    obtain ⟨hz, hsize, hbytes⟩ := hi
    obtain ⟨v', w', hr, h2, h3, -⟩ := Lib.run_append_own_string (P := Tryd.prog) w B 30 9 o.type 5 i Tryd.underlying30 Tryd.underlying9 hP hz hsize hbytes v L.length (u8s L) hown (str s) (by rw [str_size]; unfold maxLen; omega) (by rw [str_size]; omega) hB
    unfold Oper.wp execOp
    simp only [ho, resolve, invoke, builtin, Sem.run_bind, Sem.run_pure, Result.andThen_ok, List.map_toArray, List.map_cons, List.map_nil, hs, hx, hr]
    refine h v' w' ?_ (below_grown hown h3 hB)
    have e : Lib.strCells (str s) = u8s s := by unfold Lib.strCells u8s; simp [str]
    rw [List.length_append, u8s_app, ← e]
    exact h2
set_option maxRecDepth 100000 in
set_option maxHeartbeats 16000000 in
theorem large_walk (k j : Nat) (hk : k < 65536) (hj : j < 256) (W0 : World) (hT : W0.cell? ⟨5, 15, none⟩ = some (.int .u8 4)) :
    Calls Tryd.prog 8 #[.int .u16 (k : Int), .int .u8 (j : Int)] W0 fun e w' => e = .returned (.bool true) ∧ Below W0.heap.size W0 w' := by
  have h5 := cell_lt hT
  obtain ⟨n, hn⟩ : ∃ n, 65536 + j % 3 = n := ⟨_, rfl⟩
  have hn0 : 65536 ≤ n := by omega
  have hn1 : n ≤ 65538 := by omega
  have q1 : IntKind.i64.wrap (65536 + (j : Int) % 3) = (n : Int) := by rw [IntWalk.i64_in _ (by omega)]; omega
  have q2 : IntKind.i64.wrap ((j : Int) % 3) = (j : Int) % 3 := IntWalk.i64_in _ (by omega)
  have q3 : IntKind.i64.wrap (k : Int) = (k : Int) := IntWalk.i64_in _ (by omega)
  have hmk := run_make_row' (P := Tryd.prog) 30 5 (.int .u8 0) 1 Tryd.underlying30 infoU8 rfl .i64 .i64 n (by omega) (by omega)
  replace hn := Lib.hid hn
  replace hT := Lib.hid hT
  go_enter Tryd.func8, Tryd.ntmps8
  go_wp2_with fail
  refine (cawake_any _).mono ?_
  rintro e w1 ⟨rfl, hb1⟩
  have hBk := Blk.new w1 5 (madeCells #[.int .u8 0] n)
  have hba := (Below.refl w1.heap.size w1).alloc (Nat.le_refl _) (.cells (madeCells #[.int .u8 0] n) 5)
  have hsa := alloc_size' w1 (.cells (madeCells #[.int .u8 0] n) 5)
  have hmk1 := hmk w1
  obtain ⟨w2, hw2⟩ : ∃ w2, w1.alloc (.cells (madeCells #[.int .u8 0] n) 5) = w2 := ⟨_, rfl⟩
  rw [hw2] at hBk hba hsa hmk1
  have hB2 := Below.next hb1 hb1.size hba
  have hRw : Rd w2 1 (.slice (some ⟨w1.heap.size, 0, none⟩) n n) n (u8s (List.replicate n 0)) := by
    refine ⟨_, _, rfl, Nat.le_refl _, by rw [u8s_length, List.length_replicate, Nat.mul_one], fun _ => ⟨_, 0, rfl, hBk.lt, fun i u hu => ?_⟩⟩
    rw [Nat.zero_add, hBk.cell i, ← Array.getElem?_toList, toList_madeCells_one]
    rw [← hu]
    unfold u8s
    rw [List.map_replicate]
    rfl
  clear hmk
  replace hw2 := Lib.hid hw2
  replace hb1 := Lib.hid hb1
  replace hba := Lib.hid hba
  replace hB2 := Lib.hid hB2
  replace hBk := Lib.hid hBk
  have hg2 : w1.heap.size < w2.heap.size := by omega
  replace hsa := Lib.hid hsa
  generalize w1.heap.size = g at *
  have hp1 := (hRw.part 0 k n (by omega) (by omega)).2
  have hp2 := (hRw.part k (n - k) (n - k) (by omega) (by omega)).2
  have e1 : ((List.replicate n (0 : UInt8)).drop 0).take k = List.replicate k 0 := by rw [List.drop_zero, List.take_replicate, Nat.min_eq_left (by omega)]
  have e2 : ((List.replicate n (0 : UInt8)).drop k).take (n - k) = List.replicate (n - k) 0 := by rw [List.drop_replicate, List.take_replicate, Nat.min_self]
  rw [e1] at hp1
  rw [e2, Nat.zero_add] at hp2
  have hl1 : (List.replicate k (0 : UInt8)).length = k := List.length_replicate
  have hl2 : (List.replicate (n - k) (0 : UInt8)).length = n - k := List.length_replicate
  generalize List.replicate k (0 : UInt8) = z1 at *
  generalize List.replicate (n - k) (0 : UInt8) = z2 at *
  replace e1 := Lib.hid e1
  replace e2 := Lib.hid e2
  replace hRw := Lib.hid hRw
  replace hp1 := Lib.hid hp1
  replace hp2 := Lib.hid hp2
  have p1 : (0 : Int) ≤ (k : Int) := by omega
  have p2 : (k : Int) ≤ (n : Int) := by omega
  have p3 : ¬ n = k := by omega
  have p4 : k ≤ n := by omega
  have p5 : 0 ≤ (n : Int) := by omega
  replace hl1 := Lib.hid hl1
  replace hl2 := Lib.hid hl2
  have hz1 : z1.length ≤ 1000000 := by rw [hl1.out]; omega
  have hz2 : z2.length ≤ 1000000 := by rw [hl2.out]; omega
  have hfl : [z1, z2].flatten = z1 ++ z2 := by simp
  have hfll : (z1 ++ z2).length = n := by rw [List.length_append, hl1.out, hl2.out]; omega
  have hbP := (Below.refl w2.heap.size w2).alloc (Nat.le_refl _) (.cells #[.slice (some ⟨g, 0, none⟩) k n, .slice (some ⟨g, k, none⟩) (n - k) (n - k)] 30)
  have hsP := alloc_size' w2 (.cells #[.slice (some ⟨g, 0, none⟩) k n, .slice (some ⟨g, k, none⟩) (n - k) (n - k)] 30)
  have hBlkP := Blk.new w2 30 #[.slice (some ⟨g, 0, none⟩) k n, .slice (some ⟨g, k, none⟩) (n - k) (n - k)]
  have hPP : Parts (w2.alloc (.cells #[.slice (some ⟨g, 0, none⟩) k n, .slice (some ⟨g, k, none⟩) (n - k) (n - k)] 30)).drew (.slice (some ⟨w2.heap.size, 0, none⟩) 2 2) [z1, z2] := by
    refine ⟨_, _, rfl, Nat.le_refl _, fun _ => ⟨_, 0, rfl, by show _ < (w2.alloc _).heap.size; omega, fun i hi => ?_⟩⟩
    match i, hi with
    | 0, _ =>
      refine ⟨some ⟨g, 0, none⟩, n, ?_, ?_⟩
      · show World.cell? (w2.alloc _) _ = some (.slice _ z1.length n)
        rw [hl1.out]; exact hBlkP.cell 0
      · show Rd (w2.alloc _) 1 (.slice _ z1.length n) z1.length (u8s z1)
        rw [hl1.out]; exact hp1.out.below hbP
    | 1, _ =>
      refine ⟨some ⟨g, k, none⟩, n - k, ?_, ?_⟩
      · show World.cell? (w2.alloc _) _ = some (.slice _ z2.length (n - k))
        rw [hl2.out]; exact hBlkP.cell 1
      · show Rd (w2.alloc _) 1 (.slice _ z2.length (n - k)) z2.length (u8s z2)
        rw [hl2.out]; exact hp2.out.below hbP
  have hBP := Below.next hB2.out hB2.out.size hbP
  have hEnc := encode_any [z1, z2] [] (.slice (some ⟨w2.heap.size, 0, none⟩) 2 2) (.slice none 0 0) (w2.alloc (.cells #[.slice (some ⟨g, 0, none⟩) k n, .slice (some ⟨g, k, none⟩) (n - k) (n - k)] 30)).drew hPP (show 2 ≤ 100 by decide)
    (fun p hp => by
      rw [List.mem_cons, List.mem_singleton] at hp
      rcases hp with rfl | rfl
      · exact hz1
      · exact hz2) (Rd.nil _ 2) (fun p hp => by cases hp) (by decide) ((hBP.cell h5).trans hT.out)
  unfold EncR at hEnc
  clear hbP hsP hBlkP hPP
  replace hBP := Lib.hid hBP
  by_cases hbig : 65536 < n
  · have hE : encE [z1, z2] [] = 5 := by unfold encE; rw [hfl, hfll, if_pos hbig]
    have hB : encB [z1, z2] [] = [] := by unfold encB; rw [hE]; rfl
    rw [hE, hB, errV_ne (by decide)] at hEnc
    replace hE := Lib.hid hE
    replace hB := Lib.hid hB
    replace hEnc := Lib.hid hEnc
    go_wp2_with fail
    go_region_with (go_at_call 29; refine hEnc.out.mono ?_; rintro e w3 ⟨o, rfl, ho, hb3⟩)
    have hB3 := Below.next hBP.out hBP.out.size (below_of_drew hb3)
    obtain ⟨Ao, co, rfl, -⟩ := Rd.own ho
    have hb23 : Below w2.heap.size w2 w3 := ((Below.refl _ _).alloc (Nat.le_refl _) _).trans ((below_of_drew hb3).mono (by rw [alloc_size']; omega))
    have hq1 := hp1.out.below hb23
    have hq2 := hp2.out.below hb23
    have hC1 : ∀ w', Below w3.heap.size w3 w' → Calls Tryd.prog 23 #[.slice (some ⟨g, 0, none⟩) k n] w' fun e w'' => ∃ v, e = .returned v ∧ Own w'' w'.heap.size 5 1 v (chk z1).length (u8s (chk z1)) ∧ Below w'.heap.size w' w'' := fun w' hb => by
      have h := chunk_any z1 (some ⟨g, 0, none⟩) n w' (by rw [hl1.out]; exact hq1.below hb) (by omega) (((Below.next hB3 hB3.size hb).cell h5).trans hT.out)
      rw [hl1.out] at h
      exact h
    have hC2 : ∀ w', Below w3.heap.size w3 w' → Calls Tryd.prog 23 #[.slice (some ⟨g, k, none⟩) (n - k) (n - k)] w' fun e w'' => ∃ v, e = .returned v ∧ Own w'' w'.heap.size 5 1 v (chk z2).length (u8s (chk z2)) ∧ Below w'.heap.size w' w'' := fun w' hb => by
      have h := chunk_any z2 (some ⟨g, k, none⟩) (n - k) w' (by rw [hl2.out]; exact hq2.below hb) (by omega) (((Below.next hB3 hB3.size hb).cell h5).trans hT.out)
      rw [hl2.out] at h
      exact h
    have hx1 := chk_le z1 hz1
    have hx2 := chk_le z2 hz2
    rw [hl1.out] at hx1
    rw [hl2.out] at hx2
    obtain ⟨y1, hy1⟩ : ∃ y, chk z1 = y := ⟨_, rfl⟩
    obtain ⟨y2, hy2⟩ : ∃ y, chk z2 = y := ⟨_, rfl⟩
    rw [hy1] at hC1 hx1
    rw [hy2] at hC2 hx2
    have hlg := wr_two_large (a := z1) (b := z2) (rest := [48, 13, 10, 13, 10]) (by rw [hl1.out, hl2.out]; omega) (by rw [hl1.out]; omega) hz2
    rw [hy1, hy2] at hlg
    have fA : ∀ w' : World, Own (w'.alloc (.cells #[] 5)) w'.heap.size 5 1 (.slice (some ⟨w'.heap.size, 0, none⟩) 0 0) ([] : List UInt8).length (u8s []) := fun w' => World.ownsRow_made (base := w'.heap.size) (size := 1) (e := 5) w' #[] 0 (Nat.le_refl _) (Nat.zero_le _) rfl
    have fAd : ∀ w' : World, Own (w'.alloc (.cells #[] 5)).drew w'.heap.size 5 1 (.slice (some ⟨w'.heap.size, 0, none⟩) 0 0) ([] : List UInt8).length (u8s []) := fun w' => fA w'
    have b0 : Below w3.heap.size w3 w3.drew := below_drewN (Below.refl _ _) 1
    have bA : ∀ X, Below w3.heap.size w3 (w3.alloc X).drew := fun X => below_drewN ((Below.refl _ _).alloc (Nat.le_refl _) X) 1
    have sA : ∀ (w' : World) (X : Obj), (w'.alloc X).heap.size = w'.heap.size + 1 := alloc_size'
    replace hB3 := Lib.hid hB3
    replace hC1 := Lib.hid hC1
    replace hC2 := Lib.hid hC2
    replace hlg := Lib.hid hlg
    replace fA := Lib.hid fA
    replace fAd := Lib.hid fAd
    replace b0 := Lib.hid b0
    replace bA := Lib.hid bA
    replace sA := Lib.hid sA
    replace hy1 := Lib.hid hy1
    replace hy2 := Lib.hid hy2
    clear ho hb3 hq1 hq2 hb23 hEnc
    go_upto_region 7 with (fail)
    go_region_held3 (fun _ => True) (trivial)
      (first
        | (go_at_call_of 23 (Value.slice (some ⟨g, 0, none⟩) k n); refine (hC1.out _ (by with_reducible exact b0.out)).mono ?_; rintro e w4 ⟨v4, rfl, ho4, hb4⟩; have hB4 := Lib.hid (below_of_drew hb4); obtain ⟨A4, c4, rfl, -⟩ := Rd.own ho4; replace ho4 := Lib.hid ho4; clear hb4)
        | (go_at_call_of 23 (Value.slice (some ⟨g, 0, none⟩) k n); refine (hC1.out _ (by with_reducible exact bA.out _)).mono ?_; rintro e w4 ⟨v4, rfl, ho4, hb4⟩; have hA := Lib.hid (own_below (fAd.out w3) hb4); have hB4 := Lib.hid ((bA.out _).trans (hb4.mono (bA.out _).size)); obtain ⟨A4, c4, rfl, -⟩ := Rd.own ho4; replace ho4 := Lib.hid ho4; clear hb4)
        | (refine stepR_pushW _ _ (by rfl) (by rfl) (B := w3.heap.size) (L := []) y1 (v := Value.slice (some ⟨w3.heap.size, 0, none⟩) 0 0) (by with_reducible exact hA.out) (by kernel_rfl) (by kernel_rfl) rfl (by with_reducible exact Rd.own ho4.out) (by rw [List.length_nil]; omega) hB4.out.size ?_; intro v6 w6 ho6 hb6; rw [List.nil_append] at ho6; have hB6 := Lib.hid (hB4.out.trans hb6); obtain ⟨A6, c6, rfl, -⟩ := Rd.own ho6; replace ho6 := Lib.hid ho6; clear hb6)
        | (refine stepR_pushW _ _ (by rfl) (by rfl) (B := w3.heap.size) (L := []) y1 (v := Value.slice (some ⟨w4.heap.size, 0, none⟩) 0 0) (Own.base (fA.out w4) hB4.out.size) (by kernel_rfl) (by kernel_rfl) rfl (Rd.own (World.ownsRow.alloc ho4.out _)) (by rw [List.length_nil]; omega) (Nat.le_trans hB4.out.size (by rw [sA.out]; omega)) ?_; intro v6 w6 ho6 hb6; rw [List.nil_append] at ho6; have hB6 := Lib.hid ((hB4.out.alloc hB4.out.size _).trans hb6); obtain ⟨A6, c6, rfl, -⟩ := Rd.own ho6; replace ho6 := Lib.hid ho6; clear hb6)
        | (go_at_call_of 23 (Value.slice (some ⟨g, k, none⟩) (n - k) (n - k)); refine (hC2.out _ (by with_reducible exact hB6.out)).mono ?_; rintro e w7 ⟨v7, rfl, ho7, hb7⟩; have hB7 := Lib.hid (hB6.out.trans (hb7.mono hB6.out.size)); have ho67 := Lib.hid (own_below ho6.out hb7); obtain ⟨A7, c7, rfl, -⟩ := Rd.own ho7; replace ho7 := Lib.hid ho7; clear hb7)
        | (refine stepR_pushW _ _ (by rfl) (by rfl) (B := w3.heap.size) (L := y1) y2 (by with_reducible exact ho67.out) (by kernel_rfl) (by kernel_rfl) rfl (by with_reducible exact Rd.own ho7.out) (by omega) hB7.out.size ?_; intro v8 w8 ho8 hb8; have hB8 := Lib.hid (hB7.out.trans hb8); obtain ⟨L8, hL8⟩ : ∃ L, y1 ++ y2 = L := ⟨_, rfl⟩; rw [hL8] at ho8; have hl8 : L8.length ≤ 200000 := (by rw [← hL8, List.length_append]; omega); obtain ⟨A8, c8, rfl, -⟩ := Rd.own ho8; replace ho8 := Lib.hid ho8; replace hL8 := Lib.hid hL8; clear hb8)
        | (refine stepR_strW _ _ (by rfl) (by rfl) (B := w3.heap.size) (L := L8) (s := [48, 13, 10, 13, 10]) (by with_reducible exact ho8.out) (by kernel_rfl) (by kernel_rfl) (show L8.length + 5 ≤ 10000000000 by omega) hB8.out.size ?_; intro v9 w9 ho9 hb9; have hB9 := Lib.hid (hB8.out.trans hb9); obtain ⟨L9, hL9⟩ : ∃ L, L8 ++ [48, 13, 10, 13, 10] = L := ⟨_, rfl⟩; rw [hL9] at ho9; have hl9 : L9.length ≤ 200005 := (by rw [← hL9, List.length_append]; simp; omega); replace hL9 := Lib.hid hL9; obtain ⟨A9, c9, rfl, -⟩ := Rd.own ho9; replace ho9 := Lib.hid ho9; clear hb9))
    all_goals (
      have hB9W : Below W0.heap.size W0 w9 := Below.next hB3.out hB3.out.size hB9.out
      obtain ⟨sE, N, hwr, hs5, hs8⟩ := hlg.out
      rw [← List.append_assoc, hL8.out, hL9.out] at hwr
      have ho9' := ho9.out
      have hD10 := Decv.new w9
      have hb10 := (Below.refl w9.heap.size w9).alloc (Nat.le_refl _) (.cells (cells 0 0 0 0 0 (.slice none 0 0) false 0 (.slice none 0 0) .nilIface) 68)
      have hlt9 := fun j (hj : (Value.slice A9 L9.length c9).ownBlock = some j) => (World.ownsRow.lt ho9' j hj).2
      have hW := write_any zero hD10 L9 A9 c9 (Rd.own (own_below ho9' hb10)) (fun _ j hj e => by have := hlt9 j hj; omega) (by omega)
      unfold WriteR at hW
      rw [hwr] at hW
      simp only [hs5] at hW
      have hB10 := Below.next hB9W hB9W.size hb10
      have hW9s := hB9W.size
      replace hW := Lib.hid hW
      replace hB10 := Lib.hid hB10
      replace hb10 := Lib.hid hb10
      replace hlt9 := Lib.hid hlt9
      replace hwr := Lib.hid hwr
      replace hs5 := Lib.hid hs5
      clear hD10 ho9' hB9W
      go_wp2_with fail
      refine (cnew_any _).mono ?_
      rintro e w10 ⟨rfl, rfl⟩
      generalize w9.alloc (.cells (cells 0 0 0 0 0 (.slice none 0 0) false 0 (.slice none 0 0) .nilIface) 68) = w10 at *
      go_wp2_with fail
      refine hW.out.mono ?_
      rintro e w11 ⟨vb, F, rfl, hvb, -, hD11, -, hk11⟩
      have hB11 : Below W0.heap.size W0 w11 := hB10.out.trans (hk11.toBelow hB10.out.size (fun j e => by omega))
      obtain ⟨Av, cv, rfl, -⟩ := Rd.own hvb
      have hdn := cdone_any hD11
      rw [decide_eq_false hs8] at hdn
      have ql : ((z1.length : Int) == (k : Int)) = true := by rw [hl1.out]; exact beq_self_eq_true _
      replace hdn := Lib.hid hdn
      replace hB11 := Lib.hid hB11
      clear hvb hD11 hk11
      go_wp2_with fail
      refine (is_any 5 5 _).mono ?_
      rintro e w12 ⟨rfl, rfl⟩
      go_wp2_with fail
      refine (is_any 5 5 _).mono ?_
      rintro e w12 ⟨rfl, rfl⟩
      go_wp2_with fail
      refine hdn.out.mono ?_
      rintro e w12 ⟨rfl, rfl⟩
      go_wp2
      go_ret
      exact ⟨rfl, hB11.out⟩)
  · have hE : encE [z1, z2] [] = 0 := by unfold encE; rw [hfl, hfll, if_neg hbig]; rfl
    obtain ⟨sE, hwr, hs8, hsb, -⟩ := wr_enc hE
    obtain ⟨hq1, hq2, hq3⟩ := encB_len hE
    have hcl := chks_le [z1, z2] (fun p hp => by
      rw [List.mem_cons, List.mem_singleton] at hp
      rcases hp with rfl | rfl
      · exact hz1
      · exact hz2)
    rw [hfl, hfll] at hcl
    have h22 : [z1, z2].length = 2 := rfl
    rw [h22] at hcl
    have hBl : (encB [z1, z2] []).length ≤ 200000 := by rw [hq1, List.length_append]; omega
    rw [hE, errV_zero] at hEnc
    rw [hfl] at hwr
    obtain ⟨D, hD⟩ : ∃ D, z1 ++ z2 = D := ⟨_, rfl⟩
    rw [hD] at hwr hfll
    generalize encB [z1, z2] [] = B at *
    have q65 : ¬ (65536 : Int) < (n : Int) := by omega
    replace hE := Lib.hid hE
    replace hq1 := Lib.hid hq1
    replace hq3 := Lib.hid hq3
    replace hcl := Lib.hid hcl
    replace hfl := Lib.hid hfl
    replace hD := Lib.hid hD
    replace hwr := Lib.hid hwr
    replace hsb := Lib.hid hsb
    replace hfll := Lib.hid hfll
    replace hEnc := Lib.hid hEnc
    replace h22 := Lib.hid h22
    go_wp2_with fail
    go_region_with (go_at_call 29; refine hEnc.out.mono ?_; rintro e w3 ⟨o, rfl, ho, hb3⟩)
    have hB3 := Below.next hBP.out hBP.out.size (below_of_drew hb3)
    obtain ⟨Ao, co, rfl, -⟩ := Rd.own ho
    have hD10 := Decv.new w3
    have hb10 := (Below.refl w3.heap.size w3).alloc (Nat.le_refl _) (.cells (cells 0 0 0 0 0 (.slice none 0 0) false 0 (.slice none 0 0) .nilIface) 68)
    have hlt3 := fun j (hj : (Value.slice Ao B.length co).ownBlock = some j) => (World.ownsRow.lt ho j hj).2
    have hW := write_any zero hD10 B Ao co (Rd.own (own_below ho hb10)) (fun _ j hj e => by have := hlt3 j hj; omega) (by omega)
    unfold WriteR at hW
    rw [hwr.out] at hW
    simp only [hsb.out] at hW
    simp only [show errV ((0 : Nat) : Int) = .nilIface from rfl] at hW
    have hB10 := Below.next hB3 hB3.size hb10
    have hW3s := hB3.size
    replace hW := Lib.hid hW
    replace hB10 := Lib.hid hB10
    replace hb10 := Lib.hid hb10
    replace hlt3 := Lib.hid hlt3
    clear hD10 ho hb3 hB3
    go_wp2_with fail
    refine (cnew_any _).mono ?_
    rintro e w10 ⟨rfl, rfl⟩
    generalize w3.alloc (.cells (cells 0 0 0 0 0 (.slice none 0 0) false 0 (.slice none 0 0) .nilIface) 68) = w10 at *
    go_wp2_with fail
    refine hW.out.mono ?_
    rintro e w11 ⟨vb, F, rfl, hvb, -, hD11, -, hk11⟩
    have hB11 : Below W0.heap.size W0 w11 := hB10.out.trans (hk11.toBelow hB10.out.size (fun j e => by omega))
    obtain ⟨Av, cv, rfl, -⟩ := Rd.own hvb
    have hdn := cdone_any hD11
    rw [decide_eq_true hs8] at hdn
    have ql : ((D.length : Int) == (n : Int)) = true := by rw [hfll.out]; exact beq_self_eq_true _
    replace hdn := Lib.hid hdn
    replace hB11 := Lib.hid hB11
    clear hvb hD11 hk11
    go_wp2_with fail
    refine hdn.out.mono ?_
    rintro e w12 ⟨rfl, rfl⟩
    go_wp2
    go_ret
    exact ⟨rfl, hB11.out⟩
end Go.Proofs.YtbegpdhkjfdjbaaDoor
