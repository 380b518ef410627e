/-
  Layer 8: the walk of ConnMany.
-/
import Derived.Test.YtibcbaghgpemfaaGreatDoorNConst
import Derived.Test.YtibcbaghgpemfaaGreatDoorNResp
import Derived.Test.YtibcbaghgpemfaaGreatDoorNManyP
namespace Go.Proofs.YtibcbaghgpemfaaGreatDoor
open Go.RowKit Syn Hd Fr Ck
theorem made_strs (q : Nat) : (madeCells (Value.string ⟨#[]⟩).cells (q * 1)).toList = strs (List.replicate q []) := by
  rw [Nat.mul_one]
  show ((Array.range q).map fun i => (#[Value.string ⟨#[]⟩] : Array Value)[i % 1]!).toList = _
  rw [Array.toList_map, Array.toList_range]
  have : (fun i : Nat => (#[Value.string ⟨#[]⟩] : Array Value)[i % 1]!) = fun _ => Value.string ⟨#[]⟩ := funext fun i => by rw [Nat.mod_one]; rfl
  rw [this, List.map_const', List.length_range]
  simp [strs, str]
theorem make_strs (q : Nat) (h : q < 5) (W : World) : Sem.run Tryz.prog (Instr.makeSlice 22 (.int .i64 (q : Int)) (.int .i64 (q : Int))) W = .ok (.slice (some ⟨W.heap.size, 0, none⟩) q q) (W.alloc (.cells (madeCells (Value.string ⟨#[]⟩).cells (q * 1)) 9)) := by
  have hinfo : ∃ i, Tryz.prog.info? 9 = some i ∧ i.zero = some (.string ⟨#[]⟩) ∧ i.size = 1 ∧ i.bytes = 16 := by
    have h : (Tryz.prog.info? 9).map (fun i => (i.zero, i.size, i.bytes)) = some (some (.string ⟨#[]⟩), 1, 16) := by kernel_rfl
    cases hi : Tryz.prog.info? 9 with
    | none => rw [hi] at h; cases h
    | some i => rw [hi] at h; simp at h; exact ⟨i, rfl, h.1, h.2.1, h.2.2⟩
  obtain ⟨i, hi, hz, hs, hb⟩ := hinfo
  have := run_makeSlice (P := Tryz.prog) W 22 9 i _ Tryz.underlying22 hi hz .i64 .i64 (q : Int) (q : Int) (by omega) (Int.le_refl _) (by rw [hs]; simp; omega) (by rw [hb]; omega) (by omega)
  rw [hs] at this
  simpa using this
set_option maxRecDepth 100000 in
set_option maxHeartbeats 8000000 in
theorem many_walk (n k : UInt8) (w : World) (hM : MaxL w) : Calls Tryz.prog 7 #[.int .u8 (n.toNat : Int), .int .u8 (k.toNat : Int)] w fun e w' => e = .returned (.bool true) ∧ Below w.heap.size w w' := by
  have hAw := Lib.hid (fun w hM => cnawake_any w hM)
  replace hM := Lib.hid hM
  have hn := n.toNat_lt
  have hk := k.toNat_lt
  go_enter Tryz.func7, Tryz.ntmps7
  go_wp2_with fail
  refine (hAw.out w hM.out).mono ?_
  rintro e w1 ⟨rfl, hb1⟩
  have hM1 := Lib.hid (hM.out.below hb1)
  replace hb1 := Lib.hid hb1
  go_wp2
  obtain ⟨m, hmm, hm60, hm69⟩ : ∃ m : Nat, (60 + (n.toNat : Int) % 10) = (m : Int) ∧ 60 ≤ m ∧ m ≤ 69 := ⟨60 + n.toNat % 10, by omega, by omega, by omega⟩
  rw [hmm]
  go_loopw [7, 22] (fun s i wr => ∃ j : Nat, i = .int .i64 (j : Int) ∧ j ≤ m ∧ s = .string (str (Cn.rep j)) ∧ wr = w1) (fun _ i _ => m - (intOf i).toNat)
  case atStart => exact ⟨0, rfl, by omega, rfl, rfl⟩
  case round =>
    obtain ⟨j, rfl, hj, rfl, hw⟩ := hrel
    by_cases hlt : j < m
    · have hnx := Lib.hid (show str (Cn.rep j) ++ ⟨#[71, 69, 84, 32, 47, 32, 72, 84, 84, 80, 47, 49, 46, 49, 13, 10, 104, 111, 115, 116, 58, 32, 97, 13, 10, 13, 10]⟩ = str (Cn.rep (j + 1)) by rw [← Cn.rep_last, ← str_append]; rfl)
      have hsz : (str (Cn.rep j)).size = 27 * j := by rw [str_size, Cn.rep_length]
      go_wp2
      go_roundw
      case rel => exact ⟨j + 1, by go_num, by omega, by rw [← hnx.out], by first | exact hw | trivial⟩
      case measure => simp [intOf]; omega
    · obtain rfl : j = m := by omega
      subst hw
      obtain ⟨cf, wf, hcf⟩ := conv_any (Cn.rep j)
      go_wp2_with fail
      refine (newreq_any wr).mono ?_
      rintro e w2 ⟨rfl, hw2⟩
      have hA2 : Cn.At w2 wr.heap.size (· = wr.heap.size) (Cn.new false []) := by rw [hw2]; exact newreq_at wr
      have hb2 : Below w.heap.size w w2 := by rw [hw2]; exact hb1.out.alloc hb1.out.size _
      clear hw2
      obtain ⟨hcv, hRb, hbw⟩ := hcf w2
      generalize hw3 : wf w2 = w3 at hcv hRb hbw
      generalize hc3 : cf w2 = c3 at hcv hRb
      clear hcf hw3 hc3
      have hB3 := Lib.hid (hb2.trans (hbw.mono hb2.size))
      have hA3 := hA2.kp ((Kp.refl (fun _ => False) w2).below hbw) (fun _ _ h => h)
      have hsz2 : (Cn.rep j).length = 27 * j := Cn.rep_length j
      obtain ⟨c1, l1, hwr, hl1, hc1⟩ := Cn.many_write (m := j) (by omega)
      have hWt := connwrite_any hA3 (Cn.rep j) _ _ hRb (by rw [hsz2]; simp [Cn.new]; omega) (fun w' hk => hM.out.below (hB3.out.trans (hk.toBelow hB3.out.size (fun k e => by rw [e]; exact hb1.out.size))))
      rw [hwr] at hWt
      replace hWt := Lib.hid hWt
      clear hRb hA2 hA3
      clear hsz2
      replace hbw := Lib.hid hbw
      replace hb2 := Lib.hid hb2
      replace hwr := Lib.hid hwr
      replace hl1 := Lib.hid hl1
      replace hc1 := Lib.hid hc1
      go_wp2_with fail
      refine hWt.out.mono ?_
      rintro e w4 ⟨o, F4, xs, rfl, hE, hR, hO, hFF, hk4, hA4⟩
      have hB4 := Lib.hid (hB3.out.trans (hk4.toBelow hB3.out.size (fun k e => by rw [e]; exact hb1.out.size)))
      obtain ⟨A, cap, rfl, -, -⟩ := hR
      rw [hl1.out, hc1.out]
      clear hE hO hFF hk4 hA4 hWt
      obtain ⟨q, hqq, hq5⟩ : ∃ q : Nat, ((k.toNat : Int) % 5) = (q : Int) ∧ q < 5 := ⟨k.toNat % 5, by omega, by omega⟩
      have hI := Lib.hid (fun w => is_any 5 5 w)
      rw [show errV 5 = .iface 76 (.int .i64 5) from rfl, show (decide ((5 : Int) = 5) && decide ((5 : Int) ≠ 0)) = true from rfl] at hI
      by_cases h64 : j ≤ 64
      case' pos =>
        rw [if_pos h64, if_pos h64, show errV 0 = .nilIface from rfl]
        have hmin : min (j : Int) 64 = (j : Int) := by omega
        go_wp2_with fail
      case' neg =>
        rw [if_neg h64, if_neg h64, show errV 5 = .iface 76 (.int .i64 5) from rfl]
        have hmin : min (j : Int) 64 = 64 := by omega
        go_wp2_with fail
        refine (hI.out _).mono ?_
        rintro e w5 ⟨rfl, hw5⟩
        subst w5
        go_wp2_with fail
      all_goals
        have hmk := make_strs q hq5 w4
        have hRm := rd_arr w4 _ 9 _ q (made_strs q) (by simp [strs])
        have hBm := Lib.hid (hB4.out.alloc hB4.out.size (.cells (madeCells (Value.string ⟨#[]⟩).cells (q * 1)) 9))
        have hNr := newresp_any (List.replicate q []) (some ⟨w4.heap.size, 0, none⟩) q (w4.alloc (.cells (madeCells (Value.string ⟨#[]⟩).cells (q * 1)) 9)) (by rw [List.length_replicate]; exact hRm) (by rw [List.length_replicate]; omega)
        rw [List.length_replicate] at hNr
        replace hNr := Lib.hid hNr
        replace hRm := Lib.hid hRm
        generalize hw5 : w4.alloc (.cells (madeCells (Value.string ⟨#[]⟩).cells (q * 1)) 9) = w5 at hmk hBm hNr
        clear hRm hw5
        rw [hmk]
        clear hmk
        go_wp2_with fail
        refine hNr.out.mono ?_
        rintro e w6 ⟨g, F, rfl, hA, hF, hb6⟩
        have hB6 := Lib.hid (hBm.out.trans (hb6.mono hBm.out.size))
        replace hb6 := Lib.hid hb6
        replace hA := Lib.hid hA
        replace hF := Lib.hid (fun k hk => Nat.le_trans hBm.out.size (hF k hk))
        go_wp2
        go_loopw [12] (fun i wr => ∃ (n : Nat) (F' : Nat → Prop), i = .int .i64 (n : Int) ∧ n ≤ q ∧ Hid (Cn.At wr g F' (Cn.manyC q n)) ∧ Hid (∀ k, F' k → w.heap.size ≤ k) ∧ Hid (Below w.heap.size w wr)) (fun i _ => q - (intOf i).toNat)
        case atStart => exact ⟨0, F, rfl, by omega, hA, hF, hB6⟩
        case round =>
          obtain ⟨n, F', rfl, hnq, hAn, hFn, hBn⟩ := hrel
          by_cases hlt2 : n < q
          · obtain ⟨hl100, ea, eb, ed, hwr2, hea, heb, hed, her⟩ := Cn.many_fix hq5 hlt2
            obtain ⟨w7, hcv7, hRc, hBc⟩ := const_any Cn.fixB wr
            have hcv7' : Sem.run Tryz.prog (convert 23 23 (.slice (some ⟨wr.heap.size, 0, none⟩) 49 49)) (wr.alloc (.cells #[.int .u8 72, .int .u8 84, .int .u8 84, .int .u8 80, .int .u8 47, .int .u8 49, .int .u8 46, .int .u8 49, .int .u8 32, .int .u8 49, .int .u8 48, .int .u8 51, .int .u8 32, .int .u8 69, .int .u8 97, .int .u8 114, .int .u8 108, .int .u8 121, .int .u8 13, .int .u8 10, .int .u8 13, .int .u8 10, .int .u8 72, .int .u8 84, .int .u8 84, .int .u8 80, .int .u8 47, .int .u8 49, .int .u8 46, .int .u8 49, .int .u8 32, .int .u8 50, .int .u8 48, .int .u8 52, .int .u8 32, .int .u8 78, .int .u8 111, .int .u8 32, .int .u8 67, .int .u8 111, .int .u8 110, .int .u8 116, .int .u8 101, .int .u8 110, .int .u8 116, .int .u8 13, .int .u8 10, .int .u8 13, .int .u8 10] 5)) = .ok (.slice (some ⟨wr.heap.size, 0, none⟩) 49 49) w7 := hcv7
            clear hcv7
            have hB7 := Lib.hid (hBn.out.trans (hBc.mono hBn.out.size))
            have hA7 := hAn.out.kp ((Kp.refl (fun _ => False) wr).below hBc) (fun _ _ h => h)
            have hW7 := connwrite_any hA7 Cn.fixB (some ⟨wr.heap.size, 0, none⟩) 49 hRc (by have : Cn.fixB.length = 49 := rfl; omega) (fun w' hk => hM.out.below (hB7.out.trans (hk.toBelow hB7.out.size hFn.out)))
            rw [hwr2] at hW7
            replace hW7 : Hid (Calls Tryz.prog 18 #[.pointer (some ⟨g, 0, none⟩), .slice (some ⟨wr.heap.size, 0, none⟩) 49 49] w7 (Cn.WriteR w7 g F' (Cn.manyC q (n + 1), [ea, eb, ed]))) := Lib.hid hW7
            clear hRc hA7
            replace hBc := Lib.hid hBc
            replace hwr2 := Lib.hid hwr2
            replace her := Lib.hid her
            go_wp2_with fail
            refine hW7.out.mono ?_
            rintro e w8 ⟨o, F8, xs, rfl, hE, hR, hO, hFF, hk8, hA8⟩
            rw [show errV (Cn.manyC q (n + 1)).err = .nilIface by rw [her.out]; rfl]
            have hB8 := Lib.hid (hB7.out.trans (hk8.toBelow hB7.out.size hFn.out))
            have hz7 := hB7.out.size
            replace hFF := Lib.hid (fun k hk => (hFF k hk).elim (hFn.out k) (fun h => Nat.le_trans hz7 h))
            replace hA8 := Lib.hid hA8
            clear hz7 hW7 hk8 hO
            cases hE with
            | cons h1 h2 =>
              cases h2 with
              | cons h3 h4 =>
                cases h4 with
                | cons h5 h6 =>
                  cases h6
                  obtain ⟨_, _, _, _, hx1, -⟩ := h1
                  obtain ⟨_, _, _, _, hx2, -⟩ := h3
                  obtain ⟨_, _, _, _, hx3, -⟩ := h5
                  subst hx1 hx2 hx3
                  obtain ⟨A8, cap8, rfl, -, -, hr⟩ := hR
                  obtain ⟨b8, off8, rfl, hlt8, hx⟩ := hr (show 0 < 3 by decide)
                  have k4 : w8.cell? ⟨b8, off8 + 4, none⟩ = some (.int .i64 103) := (hx 4 _ rfl).trans (by rw [hea])
                  have k12 : w8.cell? ⟨b8, off8 + 12, none⟩ = some (.int .i64 204) := (hx 12 _ rfl).trans (by rw [heb])
                  have k16 : w8.cell? ⟨b8, off8 + 16, none⟩ = some (.int .i64 3) := (hx 16 _ rfl).trans (by rw [hed]; rfl)
                  clear hx hr
                  go_wp2
                  go_roundw
                  case rel => exact ⟨n + 1, F8, by go_num, by omega, hA8, hFF, hB8⟩
                  case measure => simp [intOf]; omega
          · obtain rfl : n = q := by omega
            obtain ⟨hl100, c9, hwr9, hc9⟩ := Cn.many_last hq5
            obtain ⟨w7, hcv7, hRc, hBc⟩ := const_any [72] wr
            have hcv7' : Sem.run Tryz.prog (convert 23 23 (.slice (some ⟨wr.heap.size, 0, none⟩) 1 1)) (wr.alloc (.cells #[.int .u8 72] 5)) = .ok (.slice (some ⟨wr.heap.size, 0, none⟩) 1 1) w7 := hcv7
            clear hcv7
            have hB7 := Lib.hid (hBn.out.trans (hBc.mono hBn.out.size))
            have hA7 := hAn.out.kp ((Kp.refl (fun _ => False) wr).below hBc) (fun _ _ h => h)
            have hW7 := connwrite_any hA7 [72] (some ⟨wr.heap.size, 0, none⟩) 1 hRc (by show _ + 1 ≤ _; omega) (fun w' hk => hM.out.below (hB7.out.trans (hk.toBelow hB7.out.size hFn.out)))
            rw [hwr9] at hW7
            replace hW7 : Hid (Calls Tryz.prog 18 #[.pointer (some ⟨g, 0, none⟩), .slice (some ⟨wr.heap.size, 0, none⟩) 1 1] w7 (Cn.WriteR w7 g F' (c9, []))) := Lib.hid hW7
            have hI6 := Lib.hid (fun w => is_any 6 6 w)
            rw [show errV 6 = .iface 76 (.int .i64 6) from rfl, show (decide ((6 : Int) = 6) && decide ((6 : Int) ≠ 0)) = true from rfl] at hI6
            clear hRc hA7
            replace hBc := Lib.hid hBc
            replace hwr9 := Lib.hid hwr9
            replace hc9 := Lib.hid hc9
            go_wp2_with fail
            refine hW7.out.mono ?_
            rintro e w8 ⟨o, F8, xs, rfl, hE, hR, hO, hFF, hk8, hA8⟩
            rw [show errV c9.err = .iface 76 (.int .i64 6) by rw [hc9.out]; rfl]
            have hB8 := Lib.hid (hB7.out.trans (hk8.toBelow hB7.out.size hFn.out))
            obtain ⟨A8, cap8, rfl, -, -, -⟩ := hR
            clear hE hO hFF hk8 hA8 hW7
            go_wp2_with fail
            refine (hI6.out _).mono ?_
            rintro e w9 ⟨rfl, hw9⟩
            subst w9
            go_wp2
            go_ret
            exact ⟨rfl, hB8.out⟩
end Go.Proofs.YtibcbaghgpemfaaGreatDoor
