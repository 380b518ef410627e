/-
  Layer 8: the walk of ConnCloses.
-/
import Derived.Test.YtibcbaghgpemfaaGreatDoorNConst
import Derived.Test.YtibcbaghgpemfaaGreatDoorNClose
import Derived.Test.YtibcbaghgpemfaaGreatDoorNResp
import Derived.Test.YtibcbaghgpemfaaGreatDoorNClosP
namespace Go.Proofs.YtibcbaghgpemfaaGreatDoor
open Go.RowKit Syn Hd Fr Ck
theorem Cn.close_buf (c : Cn.C) : (Cn.close c).1.buf = c.buf := by
  unfold Cn.close
  split
  · rfl
  · split
    · rfl
    · split <;> rfl
theorem Cn.EvsC.uncons {w : World} {P : Nat → Prop} {e : Cn.Ev} {l : List Cn.Ev} {xs : List Value} (h : Cn.EvsC w P (e :: l) xs) : ∃ ys zs, xs = ys ++ zs ∧ Cn.EvC w P e ys ∧ Cn.EvsC w P l zs := by
  cases h with
  | cons h1 h2 => exact ⟨_, _, rfl, h1, h2⟩
theorem Cn.EvsC.none {w : World} {P : Nat → Prop} {xs : List Value} (h : Cn.EvsC w P [] xs) : xs = [] := by
  cases h; rfl
set_option maxRecDepth 100000 in
set_option maxHeartbeats 8000000 in
theorem closes_walk (data : List UInt8) (k : UInt8) (w : World) (hM : MaxL w) : Calls Tryz.prog 12 #[.string (str data), .int .u8 (k.toNat : Int)] w fun e w' => e = .returned (.bool true) ∧ Below w.heap.size w w' := by
  have hAw := Lib.hid (fun w hM => cnawake_any w hM)
  have hk8 := k.toNat_lt
  replace hM := Lib.hid hM
  go_enter Tryz.func12, Tryz.ntmps12
  go_wp2_with fail
  refine (hAw.out w hM.out).mono ?_
  rintro e w1 ⟨rfl, hb1⟩
  have hM1 := Lib.hid (hM.out.below hb1)
  replace hb1 := Lib.hid hb1
  go_wp2_with fail
  · refine (hAw.out w1 hM1.out).mono ?_
    rintro e w2 ⟨rfl, hb2⟩
    have hB := Lib.hid (hb1.out.trans (hb2.mono hb1.out.size))
    replace hb2 := Lib.hid hb2
    go_wp2
    go_ret
    exact ⟨rfl, hB.out⟩
  have hR1 : Rd (w1.alloc (.cells #[.string ⟨#[71, 69, 84]⟩] 9)) 1 (.slice (some ⟨w1.heap.size, 0, none⟩) 1 1) 1 (strs [[71, 69, 84]]) := by
    refine ⟨_, _, rfl, Nat.le_refl _, by simp [strs], fun _ => ⟨w1.heap.size, 0, rfl, by rw [alloc_size']; omega, fun j u hu => ?_⟩⟩
    rw [Nat.zero_add]
    simp [World.cell?, World.alloc, -World.alloc_eq]
    simpa [strs, str] using hu
  have hk1 := (Kp.refl (fun _ => False) w1).alloc (.cells #[.string ⟨#[71, 69, 84]⟩] 9)
  have hB1 := Lib.hid (hb1.out.alloc hb1.out.size (.cells #[.string ⟨#[71, 69, 84]⟩] 9))
  have hNr := Lib.hid (newresp_any [[71, 69, 84]] _ _ _ hR1 (by decide))
  clear hR1 hk1
  go_wp2_with fail
  refine hNr.out.mono ?_
  rintro e w2 ⟨g, F, rfl, hA, hF, hb2⟩
  have hB2 := Lib.hid (hB1.out.trans (hb2.mono hB1.out.size))
  obtain ⟨cf, wf, hcf⟩ := conv_any (Cn.okB ++ data)
  obtain ⟨hcv, hRb, hbw⟩ := hcf w2
  rw [show str (Cn.okB ++ data) = ⟨#[72, 84, 84, 80, 47, 49, 46, 49, 32, 50, 48, 48, 32, 79, 75, 13, 10, 13, 10]⟩ ++ str data from (str_append Cn.okB data).symm] at hcv
  generalize hw3 : wf w2 = w3 at hcv hRb hbw
  generalize hc3 : cf w2 = c3 at hcv hRb
  clear hcf hw3 hc3
  have hB3 := Lib.hid (hB2.out.trans (hbw.mono hB2.out.size))
  have hA3 := hA.kp ((Kp.refl (fun _ => False) w2).below hbw) (fun _ _ h => h)
  have hlen : data.length ≤ 2000 := by
    have hz : ((str data).size : Int) ≤ 2000 := by assumption
    rw [str_size] at hz
    omega
  obtain ⟨c1, hwr, hc1, hcb, c2, hcl, hc2, hcb2, hw2⟩ := Cn.closes_one data
  have hWt := connwrite_any hA3 (Cn.okB ++ data) _ _ hRb (by simp [Cn.okB, Cn.new]; omega) (fun w' hk => hM.out.below (hB3.out.trans (hk.toBelow hB3.out.size (fun k hk => by have := hF k hk; have := hB1.out.size; omega))))
  rw [hwr] at hWt
  replace hWt := Lib.hid hWt
  clear hRb hA hA3
  replace hb2 := Lib.hid hb2
  replace hbw := Lib.hid hbw
  replace hNr := Lib.hid hNr
  replace hF := Lib.hid hF
  replace hcl := Lib.hid hcl
  replace hwr := Lib.hid hwr
  replace hw2 := Lib.hid hw2
  go_wp2_with fail
  rw [show Cn.okB.length + data.length = (Cn.okB ++ data).length from List.length_append.symm]
  refine hWt.out.mono ?_
  rintro e w4 ⟨o, F4, xs, rfl, hE, hR, hO, hFF, hk, hA4⟩
  rw [show errV c1.err = .nilIface by rw [hc1]; rfl]
  have hB4 := Lib.hid (hB3.out.trans (hk.toBelow hB3.out.size (fun k hk => by have := hF.out k hk; have := hB1.out.size; omega)))
  have hCl := close_any hA4 (by rw [hcb]; decide)
  rw [hcl.out] at hCl
  replace hCl := Lib.hid hCl
  replace hA4 := Lib.hid hA4
  replace hk := Lib.hid hk
  replace hE := Lib.hid hE
  replace hR := Lib.hid hR
  replace hO := Lib.hid hO
  go_wp2_with fail
  refine hCl.out.mono ?_
  rintro e w5 ⟨o5, F5, xs5, rfl, hE5, hR5, hO5, hFF5, hk5, hA5⟩
  rw [show errV c2.err = .nilIface by rw [hc2]; rfl]
  have hOff : Off F4 o := fun k hk2 => (hO.out k hk2).2.2
  have hF4 : ∀ k, F4 k → w.heap.size ≤ k := fun k h => by
    have a := hB1.out.size
    have b := hB3.out.size
    rcases hFF k h with h | h
    · exact Nat.le_trans a (hF.out k h)
    · exact Nat.le_trans b h
  have hE4 := hE.out.kp hk5 (fun k hp hf => hp.2.2 hf)
  have hR4 := hR.out.kp hOff hk5
  have hB5 := Lib.hid (hB4.out.trans (hk5.toBelow hB4.out.size hF4))
  have hF5 : ∀ k, F5 k → w.heap.size ≤ k := fun k h => by
    have b := hB4.out.size
    rcases hFF5 k h with h | h
    · exact hF4 k h
    · exact Nat.le_trans b h
  obtain ⟨w6, hcv6, hRc6, hBc6⟩ := const_any [120] w5
  have hcv6' : Sem.run Tryz.prog (convert 23 23 (.slice (some ⟨w5.heap.size, 0, none⟩) 1 1)) (w5.alloc (.cells #[.int .u8 120] 5)) = .ok (.slice (some ⟨w5.heap.size, 0, none⟩) 1 1) w6 := hcv6
  have hB6 := Lib.hid (hB5.out.trans (hBc6.mono hB5.out.size))
  have hA6 := hA5.kp ((Kp.refl (fun _ => False) w5).below hBc6) (fun _ _ h => h)
  have hW6 := connwrite_any hA6 [120] (some ⟨w5.heap.size, 0, none⟩) 1 hRc6 (by rw [hcb2]; show 0 + 1 ≤ _; omega) (fun w' hk => hM.out.below (hB6.out.trans (hk.toBelow hB6.out.size hF5)))
  rw [hw2.out] at hW6
  replace hW6 : Hid (Calls Tryz.prog 18 #[.pointer (some ⟨g, 0, none⟩), .slice (some ⟨w5.heap.size, 0, none⟩) 1 1] w6 (Cn.WriteR w6 g F5 ({ c2 with err := 6 }, []))) := Lib.hid hW6
  have hI6 := Lib.hid (fun w => is_any 6 6 w)
  rw [show errV 6 = .iface 76 (.int .i64 6) from rfl, show (decide ((6 : Int) = 6) && decide ((6 : Int) ≠ 0)) = true from rfl] at hI6
  have hI21 := Lib.hid (fun w => is_any 21 21 w)
  rw [show errV 21 = .iface 76 (.int .i64 21) from rfl, show (decide ((21 : Int) = 21) && decide ((21 : Int) ≠ 0)) = true from rfl] at hI21
  clear hcv6 hRc6 hA6 hOff hE hR hO hCl hWt hA5
  replace hBc6 := Lib.hid hBc6
  replace hcb2 := Lib.hid hcb2
  replace hc2 := Lib.hid hc2
  replace hF5 := Lib.hid hF5
  replace hF4 := Lib.hid hF4
  replace hFF5 := Lib.hid hFF5
  replace hFF := Lib.hid hFF
  replace hk5 := Lib.hid hk5

  replace hc1 := Lib.hid hc1
  replace hcb := Lib.hid hcb
  replace hlen := Lib.hid hlen
  obtain ⟨_, _, rfl, ⟨_, _, _, vt5, rfl, -, -, -, -, -, -, ht5, -⟩, g5⟩ := hE5.uncons
  obtain rfl := g5.none
  obtain ⟨At5, capt5, rfl, -, -, -⟩ := ht5
  obtain ⟨A5, cap5, rfl, -, -, hr⟩ := hR5
  obtain ⟨b5, off5, rfl, hlt5, hx⟩ := hr (show 0 < 1 by decide)
  have k0 : w5.cell? ⟨b5, off5 + 0, none⟩ = some (.int .i64 3) := hx 0 _ rfl
  have k7 : w5.cell? ⟨b5, off5 + 7, none⟩ = some (.slice At5 0 capt5) := hx 7 _ rfl
  rw [Nat.add_zero] at k0
  clear hx hr
  by_cases hd : data = []
  case' pos =>
    rw [if_pos hd] at hE4 hR4
    obtain ⟨A4, cap4, rfl, -, -, -⟩ := hR4
    subst hd
    have q1 : ((str ([] : List UInt8)).toList == []) = true := by rw [str_toList]; rfl
    clear hE4
    go_wp2_with fail
  case' neg =>
    rw [if_neg hd] at hE4 hR4
    have q1 : ((str data).toList == []) = false := by
      rw [str_toList]
      cases data with
      | nil => exact absurd rfl hd
      | cons a b => rfl
    obtain ⟨_, _, rfl, ⟨_, _, _, _, rfl, -⟩, g2⟩ := hE4.uncons
    obtain ⟨_, _, rfl, ⟨_, _, vd4, _, rfl, -, -, -, -, hRd4, -⟩, g3⟩ := g2.uncons
    obtain rfl := g3.none
    obtain ⟨A4, cap4, rfl, -, -, hr⟩ := hR4
    obtain ⟨b4, off4, rfl, hlt4, hx⟩ := hr (show 0 < 2 by decide)
    have k14 : w5.cell? ⟨b4, off4 + 14, none⟩ = some vd4 := hx 14 _ rfl
    have hcs : Sem.run Tryz.prog (convert 23 9 vd4) w5 = .ok (.string (str data)) w5 := conv_all hRd4
    have q2 : ((str data).toList != (str data).toList) = false := bne_self_eq_false _
    clear hx hr hRd4
    clear hwr hcl
    generalize str data = sd at *
    go_wp2_with fail
  all_goals
    obtain ⟨q, hq, hq50⟩ : ∃ q : Nat, ((k.toNat : Int) % 51) = (q : Int) ∧ q ≤ 50 := ⟨k.toNat % 51, by omega, by omega⟩
    refine hW6.out.mono ?_
    rintro e w7 ⟨o7, F7, xs7, rfl, hE7, hR7, hO7, hFF7, hk7, hA7⟩
    rw [show errV (6 : Int) = .iface 76 (.int .i64 6) from rfl]
    have hB7 := Lib.hid (hB6.out.trans (hk7.toBelow hB6.out.size hF5.out))
    obtain ⟨A7, cap7, rfl, -, -, -⟩ := hR7
    clear hE7 hO7 hFF7 hk7 hA7 hW6 hcv6'
    go_wp2_with fail
    refine (hI6.out _).mono ?_
    rintro e w8 ⟨rfl, hw8⟩
    subst w8
    go_wp2_with fail
    rw [hq]
    refine (newreq_any w7).mono ?_
    rintro e w8 ⟨rfl, hw8⟩
    have hA8 : Cn.At w8 w7.heap.size (· = w7.heap.size) (Cn.new false []) := by rw [hw8]; exact newreq_at w7
    have hB8 : Below w.heap.size w w8 := by rw [hw8]; exact hB7.out.alloc hB7.out.size _
    clear hw8
    obtain ⟨T1, hT1⟩ : ∃ T, T = Cn.postB.take q := ⟨_, rfl⟩
    obtain ⟨T2, hT2⟩ : ∃ T, T = Cn.postB.drop q := ⟨_, rfl⟩
    have hs1 : str T1 = (⟨#[80, 79, 83, 84, 32, 47, 32, 72, 84, 84, 80, 47, 49, 46, 49, 13, 10, 104, 111, 115, 116, 58, 32, 97, 13, 10, 99, 111, 110, 116, 101, 110, 116, 45, 108, 101, 110, 103, 116, 104, 58, 32, 51, 13, 10, 13, 10, 97, 98, 99]⟩ : ByteArray).extract 0 q := by rw [hT1, extract_str, List.drop_zero]; rfl
    have hs2 : str T2 = (⟨#[80, 79, 83, 84, 32, 47, 32, 72, 84, 84, 80, 47, 49, 46, 49, 13, 10, 104, 111, 115, 116, 58, 32, 97, 13, 10, 99, 111, 110, 116, 101, 110, 116, 45, 108, 101, 110, 103, 116, 104, 58, 32, 51, 13, 10, 13, 10, 97, 98, 99]⟩ : ByteArray).extract q 50 := by rw [hT2, extract_str]; rfl
    have hl1 : T1.length ≤ 50 := by rw [hT1, List.length_take]; omega
    have hl2 : T2.length ≤ 50 := by rw [hT2, List.length_drop]; show 50 - q ≤ 50; omega
    obtain ⟨f0, f1, f2, f3, f4⟩ := Cn.cut_facts hq50
    obtain ⟨cf1, wf1, hcf1⟩ := conv_any T1
    obtain ⟨hcv1, hRb1, hbw1⟩ := hcf1 w8
    rw [hs1] at hcv1
    generalize wf1 w8 = w9 at hcv1 hRb1 hbw1
    generalize cf1 w8 = c9 at hcv1 hRb1
    clear hcf1
    have hz7 := hB7.out.size
    have hB9 := Lib.hid (hB8.trans (hbw1.mono hB8.size))
    have hA9 := hA8.kp ((Kp.refl (fun _ => False) w8).below hbw1) (fun _ _ h => h)
    have hwrT : Cn.write (Cn.new false []) T1 = (Cn.cutC q, (Cn.write (Cn.new false []) T1).2) := by rw [hT1]; rfl
    have hW9 := connwrite_any hA9 T1 _ _ hRb1 (by show 0 + _ ≤ _; omega) (fun w' hk => hM.out.below (hB9.out.trans (hk.toBelow hB9.out.size (fun k e => by rw [e]; exact hz7))))
    rw [hwrT] at hW9
    generalize (Cn.write (Cn.new false []) T1).2 = l9 at hW9
    replace hW9 := Lib.hid hW9
    clear hwrT hA9 hA8 hRb1
    replace hz7 := Lib.hid hz7
    replace hB8 := Lib.hid hB8
    replace hbw1 := Lib.hid hbw1
    replace hs1 := Lib.hid hs1
    replace hs2 := Lib.hid hs2
    replace hT1 := Lib.hid hT1
    replace hT2 := Lib.hid hT2
    replace hl1 := Lib.hid hl1
    replace hl2 := Lib.hid hl2
    replace f0 := Lib.hid f0
    replace f1 := Lib.hid f1
    replace f2 := Lib.hid f2
    replace f3 := Lib.hid f3
    replace f4 := Lib.hid f4
    go_wp2_with fail
    refine hW9.out.mono ?_
    rintro e w10 ⟨o10, F10, xs10, rfl, hE10, hR10, hO10, hFF10, hk10, hA10⟩
    rw [show errV (Cn.cutC q).err = .nilIface by rw [f0.out]; rfl]
    have hB10 := Lib.hid (hB9.out.trans (hk10.toBelow hB9.out.size (fun k e => by rw [e]; exact hz7.out)))
    have hz9 := hB9.out.size
    have hF10 := Lib.hid (fun k hk => (hFF10 k hk).elim (fun e => by rw [e]; exact hz7.out) (fun h => Nat.le_trans hz9 h))
    have hCl := close_any hA10 (by have := f3.out; show (Cn.cutC q).buf.length ≤ _; omega)
    clear hE10 hR10 hO10 hFF10 hk10 hA10 hW9 hz9
    by_cases hq0 : q = 0 ∨ q = 50
    · obtain ⟨e1, e2, e3⟩ := Cn.cut_ends hq0
      have hbuf := Cn.close_buf (Cn.cutC q)
      obtain ⟨d, hd⟩ : ∃ d, Cn.close (Cn.cutC q) = (d, []) := ⟨_, Prod.ext rfl e1⟩
      rw [hd] at e2 e3 hCl hbuf
      replace hCl := Lib.hid hCl
      replace e1 := Lib.hid e1
      replace e2 := Lib.hid e2
      replace e3 := Lib.hid e3
      replace hd := Lib.hid hd
      replace hbuf := Lib.hid hbuf
      go_wp2_with fail
      refine hCl.out.mono ?_
      rintro e w11 ⟨o11, F11, xs11, rfl, hE11, hR11, hO11, hFF11, hk11, hA11⟩
      rw [show errV d.err = .nilIface by rw [e2.out]; rfl]
      have hB11 := Lib.hid (hB10.out.trans (hk11.toBelow hB10.out.size hF10.out))
      have hz10 := hB10.out.size
      have hF11 := Lib.hid (fun k hk => (hFF11 k hk).elim (hF10.out k) (fun h => Nat.le_trans hz10 h))
      obtain ⟨A11, cap11, rfl, -, -, -⟩ := hR11
      have hCl2 := close_any hA11 (by have h := f3.out; have h2 := hbuf.out; show d.buf.length ≤ _; rw [h2]; omega)
      rw [e3.out] at hCl2
      replace hCl2 := Lib.hid hCl2
      clear hE11 hO11 hFF11 hk11 hA11 hCl hz10
      have hkeep : ∀ (e : Ending) (w12 : World), Cn.WriteR w11 w7.heap.size F11 (d, []) e w12 → ∃ A c, e = .returned (.tuple #[.slice A 0 c, .nilIface]) ∧ Below w.heap.size w w12 := by
        rintro e w12 ⟨o, F12, xs, rfl, -, hR12, -, -, hk12, -⟩
        obtain ⟨A, c, rfl, -, -, -⟩ := hR12
        exact ⟨A, c, by rw [show errV d.err = .nilIface by rw [e2.out]; rfl]; rfl, hB11.out.trans (hk12.toBelow hB11.out.size hF11.out)⟩
      replace hkeep := Lib.hid hkeep
      rcases hq0 with hq0 | hq0
      all_goals
        go_wp2_with fail
        refine hCl2.out.mono fun e w12 h => ?_
        obtain ⟨A12, cap12, rfl, hB12⟩ := hkeep.out e w12 h
        clear h
        replace hB12 := Lib.hid hB12
        go_wp2
        go_ret
        exact ⟨rfl, hB12.out⟩
    · obtain ⟨e1, e2⟩ := Cn.cut_mid hq50 hq0
      rw [e1] at hCl
      replace hCl := Lib.hid hCl
      replace e1 := Lib.hid e1
      replace e2 := Lib.hid e2
      go_wp2_with fail
      refine hCl.out.mono ?_
      rintro e w11 ⟨o11, F11, xs11, rfl, hE11, hR11, hO11, hFF11, hk11, hA11⟩
      rw [show errV ({ Cn.cutC q with err := 21 } : Cn.C).err = .iface 76 (.int .i64 21) from rfl]
      have hB11 := Lib.hid (hB10.out.trans (hk11.toBelow hB10.out.size hF10.out))
      have hz10 := hB10.out.size
      have hF11 := Lib.hid (fun k hk => (hFF11 k hk).elim (hF10.out k) (fun h => Nat.le_trans hz10 h))
      obtain ⟨A11, cap11, rfl, -, -, -⟩ := hR11
      obtain ⟨cf2, wf2, hcf2⟩ := conv_any T2
      obtain ⟨hcv2, hRb2, hbw2⟩ := hcf2 w11
      rw [hs2.out] at hcv2
      generalize wf2 w11 = w12 at hcv2 hRb2 hbw2
      generalize cf2 w11 = c12 at hcv2 hRb2
      clear hcf2
      have hB12 := Lib.hid (hB11.out.trans (hbw2.mono hB11.out.size))
      have hA12 := hA11.kp ((Kp.refl (fun _ => False) w11).below hbw2) (fun _ _ h => h)
      have hW12 := connwrite_any hA12 T2 _ _ hRb2 (by have := f3.out; have := hl2.out; show (Cn.cutC q).buf.length + _ ≤ _; omega) (fun w' hk => hM.out.below (hB12.out.trans (hk.toBelow hB12.out.size hF11.out)))
      rw [e2.out] at hW12
      replace hW12 := Lib.hid hW12
      clear hE11 hO11 hFF11 hk11 hA11 hCl hz10 hRb2 hA12
      replace hbw2 := Lib.hid hbw2
      obtain ⟨hq1, hq2⟩ : ¬ (q : Int) = 0 ∧ ¬ (q : Int) = 50 := ⟨fun h => hq0 (.inl (by omega)), fun h => hq0 (.inr (by omega))⟩
      have hb1 : ((q : Int) == 0) = false := beq_eq_false_iff_ne.2 hq1
      have hb2 : ((q : Int) == 50) = false := beq_eq_false_iff_ne.2 hq2
      replace hq0 := Lib.hid hq0
      go_wp2_with fail
      refine hW12.out.mono ?_
      rintro e w13 ⟨o13, F13, xs13, rfl, hE13, hR13, hO13, hFF13, hk13, hA13⟩
      rw [show errV ({ Cn.cutC q with err := 21 } : Cn.C).err = .iface 76 (.int .i64 21) from rfl]
      have hB13 := Lib.hid (hB12.out.trans (hk13.toBelow hB12.out.size hF11.out))
      obtain ⟨A13, cap13, rfl, -, -, -⟩ := hR13
      clear hE13 hO13 hFF13 hk13 hA13 hW12
      go_wp2_with fail
      refine (hI21.out _).mono ?_
      rintro e w14 ⟨rfl, hw14⟩
      subst w14
      go_wp2_with fail
      refine (hI21.out _).mono ?_
      rintro e w14 ⟨rfl, hw14⟩
      subst w14
      go_wp2
      go_ret
      exact ⟨rfl, hB13.out⟩
end Go.Proofs.YtibcbaghgpemfaaGreatDoor
