/-
  Layer 8: the walk of ConnReturns.
-/
import Derived.Test.YtjffffpfejmoiaaGreatDoorGNr
import Derived.Test.YtjffffpfejmoiaaGreatDoorNNone
import Derived.Test.YtjffffpfejmoiaaGreatDoorNConst
import Derived.Test.YtjffffpfejmoiaaGreatDoorDSame
namespace Go.Proofs.YtjffffpfejmoiaaGreatDoor
open Go.RowKit Syn Hd Fr Ck
set_option maxRecDepth 100000 in
set_option maxHeartbeats 16000000 in
theorem returns_conn (s : List UInt8) (w : World) (hM : MaxL w) (hT : w.cell? ⟨5, 15, none⟩ = some (.int .u8 4)) :
    Calls Tryz.prog 5 #[.string (str s)] w fun e w' => e = .returned (.bool true) ∧ Below w.heap.size w w' := by
  have hAw := Lib.hid (fun w' (hb : Below w.heap.size w w') => cnawake_any w' (hM.below hb))
  have hT5 : 5 < w.heap.size := cell_lt hT
  replace hM := Lib.hid hM
  replace hT := Lib.hid hT
  have hss := str_size s
  by_cases hs9 : 9000 < s.length
  · have hs9' : (9000 : Int) < ((str s).size : Int) := by omega
    go_enter Tryz.func5, Tryz.ntmps5
    go_wp2_with fail
    refine (hAw.out w (Below.refl _ _)).mono ?_
    rintro e w1 ⟨rfl, hb1⟩
    replace hb1 := Lib.hid hb1
    go_wp2_with fail
    refine (hAw.out w1 hb1.out).mono ?_
    rintro e w2 ⟨rfl, hb2⟩
    have hB2 := Lib.hid (hb1.out.trans (hb2.mono hb1.out.size))
    clear hb2
    go_wp2
    go_ret
    exact ⟨rfl, hB2.out⟩
  have hs9' : ¬ (9000 : Int) < ((str s).size : Int) := by omega
  go_enter Tryz.func5, Tryz.ntmps5
  go_wp2_with fail
  refine (hAw.out w (Below.refl _ _)).mono ?_
  rintro e w1 ⟨rfl, hb1⟩
  replace hb1 := Lib.hid hb1
  go_wp2_with fail
  refine (newreq_any w1).mono ?_
  rintro e w2 ⟨rfl, hw2⟩
  have hA2 : Cn.At w2 w1.heap.size (· = w1.heap.size) (Cn.new false []) := by rw [hw2]; exact newreq_at w1
  have hb12 : Below w1.heap.size w1 w2 := by rw [hw2]; exact (Below.refl _ _).alloc (Nat.le_refl _) _
  clear hw2
  have hB2 := hb1.out.trans (hb12.mono hb1.out.size)
  obtain ⟨cf, wf, hcf⟩ := conv_any s
  obtain ⟨hcv, hRb, hbw⟩ := hcf w2
  generalize wf w2 = w3 at hcv hRb hbw
  generalize cf w2 = c3 at hcv hRb
  clear hcf
  have hB3 := hB2.trans (hbw.mono hB2.size)
  have hA3 := hA2.kp (Cn.kp_none hbw) (fun _ _ h => h)
  have hz1 := hb1.out.size
  have hW := connwrite_any hA3 s _ _ hRb (by show 0 + s.length ≤ 1000000; omega) (fun w' hk => hM.out.below (hB3.trans (hk.toBelow hB3.size (fun k e => by rw [e]; exact hz1))))
  have hlaw := Lib.hid (Cn.ret_law s)
  have hQ := Lib.hid (Cn.new_Q s (by omega))
  have hO9 := Lib.hid (Cn.new_out s (by omega))
  have hfw := Lib.hid (Cn.write_few (Cn.new_few false []) s).2
  have hcw : Hid ((Cn.write (Cn.new false []) s).2.length ≤ 18000) := Lib.hid (by have h := Cn.write_cnt (Cn.new false []) s; have hp0 : Cn.pot (Cn.new false []) = 0 := rfl; omega)
  have hdw : Hid (Cn.dsum (Cn.write (Cn.new false []) s).2 ≤ 9000) := Lib.hid (by have h := Cn.write_dsum' (Cn.new false []) s; have hp0 : (Cn.new false []).buf.length = 0 := rfl; omega)
  generalize Cn.write (Cn.new false []) s = ra at *
  obtain ⟨ca, l⟩ := ra
  replace hW := Lib.hid hW
  replace hB3 := Lib.hid hB3
  replace hz1 := Lib.hid hz1
  clear hA2 hb12 hB2 hRb hbw hA3
  go_wp2_with fail
  refine hW.out.mono ?_
  rintro e w4 ⟨ol, F4, xs, rfl, hE4, hR4, hO4, hFF4, hk4, hA4⟩
  have hB4 := Lib.hid (hB3.out.trans (hk4.toBelow hB3.out.size (fun k e => by rw [e]; exact hz1.out)))
  obtain ⟨Al, cl, rfl, -, -, -⟩ := id hR4
  have hzz := hB3.out.size
  replace hcw : Hid (l.length ≤ 18000) := Lib.hid hcw.out
  replace hdw : Hid (Cn.dsum l ≤ 9000) := Lib.hid hdw.out
  replace hfw : Hid (∀ e ∈ l, Cn.EvF e) := Lib.hid hfw.out
  replace hQ : Hid (∀ e ∈ l, Cn.EvQ e) := Lib.hid hQ.out
  by_cases he : ca.err = 0
  · have hl : ((Cn.fmt Cn.fs0 l).1 = 5 ∨ (Cn.fmt Cn.fs0 l).1 = 34) ∨ ((Cn.fmt Cn.fs0 l).1 = 0 ∧ (Cn.write (Cn.new false []) (Cn.fmt Cn.fs0 l).2.out).1.err = 0 ∧ Cn.J (Cn.write (Cn.new false []) (Cn.fmt Cn.fs0 l).2.out).2 l) := hlaw.out he
    have hO9' : (Cn.fmt Cn.fs0 l).1 = 0 → (Cn.fmt Cn.fs0 l).2.out.length ≤ 900000 := hO9.out he
    clear hO9
    have hTf := Lib.hid ((hB4.out.cell (p := ⟨5, 15, none⟩) hT5).trans hT.out)
    have hF := Lib.hid (format_any (l := l) _ w4 hE4 (fun k h => h.2.1) hR4 hQ.out (by have := hcw.out; omega) hTf.out)
    have hErr : errV (ca, l).1.err = .nilIface := by show errV ca.err = _; rw [he]; rfl
    rw [hErr]
    replace hE4 := Lib.hid hE4
    replace hR4 := Lib.hid hR4
    replace hO4 := Lib.hid hO4
    clear hErr he hlaw hFF4 hk4 hA4 hW hcv
    generalize Cn.fmt Cn.fs0 l = fm at *
    obtain ⟨fe, fs⟩ := fm
    replace hl : (fe = 5 ∨ fe = 34) ∨ (fe = 0 ∧ (Cn.write (Cn.new false []) fs.out).1.err = 0 ∧ Cn.J (Cn.write (Cn.new false []) fs.out).2 l) := hl
    replace hO9' : fe = 0 → fs.out.length ≤ 900000 := hO9'
    replace hO9' := Lib.hid hO9'
    go_wp2_with fail
    refine hF.out.mono ?_
    rintro e w5 ⟨ob, rfl, hob, hb45⟩
    have hB5 := Lib.hid (hB4.out.trans (hb45.mono hB4.out.size))
    replace hob : fe = 0 → Own w5 w4.heap.size 5 1 ob fs.out.length (u8s fs.out) := hob
    rw [show errV (fe, fs).1 = errV fe from rfl]
    rcases hl with h5 | ⟨h0, hw0, hJ⟩
    · clear hob
      rcases h5 with h5 | h5
      · subst h5
        have hI := Lib.hid (fun w => is_any 5 5 w)
        rw [show errV 5 = .iface 57 (.int .i64 5) from rfl, show (decide ((5 : Int) = 5) && decide ((5 : Int) ≠ 0)) = true from rfl] at hI
        rw [show errV 5 = .iface 57 (.int .i64 5) from rfl]
        go_wp2_with fail
        refine (hI.out _).mono ?_
        rintro e w6 ⟨rfl, hw6⟩
        subst w6
        go_wp2
        go_ret
        exact ⟨rfl, hB5.out⟩
      · subst h5
        have hI := Lib.hid (fun w => is_any 34 5 w)
        rw [show errV 34 = .iface 57 (.int .i64 34) from rfl, show (decide ((34 : Int) = 5) && decide ((5 : Int) ≠ 0)) = false from rfl] at hI
        have hJ := Lib.hid (fun w => is_any 34 34 w)
        rw [show errV 34 = .iface 57 (.int .i64 34) from rfl, show (decide ((34 : Int) = 34) && decide ((34 : Int) ≠ 0)) = true from rfl] at hJ
        rw [show errV 34 = .iface 57 (.int .i64 34) from rfl]
        go_wp2_with fail
        refine (hI.out _).mono ?_
        rintro e w6 ⟨rfl, hw6⟩
        subst w6
        go_wp2_with fail
        refine (hJ.out _).mono ?_
        rintro e w6 ⟨rfl, hw6⟩
        subst w6
        go_wp2
        go_ret
        exact ⟨rfl, hB5.out⟩
    · subst h0
      rw [errV_zero]
      have hO5 := hob rfl
      have hlen := hO9'.out rfl
      obtain ⟨T, hT5e⟩ : ∃ T, fs.out = T := ⟨_, rfl⟩
      rw [hT5e] at hO5 hlen hw0 hJ
      clear hob hO9' hT5e
      have hRb5 := Rd.own hO5
      obtain ⟨Ab, cb, rfl, -, -, -⟩ := id hRb5
      have hzz5 := hB5.out.size
      have hE5 := hE4.out.kp (Cn.kp_none hb45) (fun _ _ h => h)
      have hR5 := hR4.out.below hb45
      have hb45s := hb45.size
      replace hRb5 := Lib.hid hRb5
      replace hE5 := Lib.hid hE5
      replace hR5 := Lib.hid hR5
      replace hw0 := Lib.hid hw0
      replace hJ := Lib.hid hJ
      clear hO5 hF hE4 hR4 hTf
      go_wp2_with fail
      refine (newreq_any w5).mono ?_
      rintro e w6 ⟨rfl, hw6⟩
      have hA6 : Cn.At w6 w5.heap.size (· = w5.heap.size) (Cn.new false []) := by rw [hw6]; exact newreq_at w5
      have hb56 : Below w5.heap.size w5 w6 := by rw [hw6]; exact (Below.refl _ _).alloc (Nat.le_refl _) _
      clear hw6
      have hB6 := hB5.out.trans (hb56.mono hzz5)
      have hW2 := connwrite_any hA6 T Ab cb (hRb5.out.below hb56) (by show 0 + T.length ≤ 1000000; omega) (fun w' hk => hM.out.below (hB6.trans (hk.toBelow hB6.size (fun k e => by rw [e]; exact hzz5))))
      have hfw2 := Lib.hid (Cn.write_few (Cn.new_few false []) T).2
      have hcw2 := Lib.hid (Cn.write_evs T)
      have hdw2 : Hid (Cn.dsum (Cn.write (Cn.new false []) T).2 ≤ 900000) := Lib.hid (by have h := Cn.write_dsum' (Cn.new false []) T; have hp0 : (Cn.new false []).buf.length = 0 := rfl; omega)
      generalize Cn.write (Cn.new false []) T = rb at *
      obtain ⟨cb2, l2⟩ := rb
      replace hcw2 : Hid (l2.length ≤ 192) := Lib.hid hcw2.out
      replace hdw2 : Hid (Cn.dsum l2 ≤ 900000) := Lib.hid hdw2.out
      replace hfw2 : Hid (∀ e ∈ l2, Cn.EvF e) := Lib.hid hfw2.out
      have e0 : cb2.err = 0 := hw0.out
      have hJJ : Cn.joined l2 = Cn.joined l := hJ.out.joined
      have hErr2 : errV (cb2, l2).1.err = .nilIface := by show errV cb2.err = _; rw [e0]; rfl
      have hE6 := hE5.out.kp (Cn.kp_none hb56) (fun _ _ h => h)
      have hR6 := hR5.out.below hb56
      have hzz6 := hb56.size
      replace hW2 := Lib.hid hW2
      replace hB6 := Lib.hid hB6
      replace hJJ := Lib.hid hJJ
      replace hE6 := Lib.hid hE6
      replace hR6 := Lib.hid hR6
      clear hA6 hb56 e0 hw0 hJ hE5 hR5
      go_wp2_with fail
      refine hW2.out.mono ?_
      rintro e w7 ⟨o7, F7, xs7, rfl, hE7, hR7, hO7, hFF7, hk7, hA7⟩
      rw [hErr2]
      have hB7 := Lib.hid (hB6.out.trans (hk7.toBelow hB6.out.size (fun k e => by rw [e]; exact hzz5)))
      have hEl7 := hE6.out.kp hk7 (fun k hp (e : k = w5.heap.size) => by have := hp.2.1; omega)
      have hRl7 := hR6.out.kp (fun k e (h : k = w5.heap.size) => by have := (hO4.out k e).2.1; omega) hk7
      obtain ⟨A7, c7, rfl, -, -, -⟩ := id hR7
      have hno : ∀ w', Below w7.heap.size w7 w' → Kp (fun _ => False) w7 w' := fun w' hb => (Kp.refl _ w7).below hb
      have hRfL := Lib.hid (fun w' (hb : Below w7.heap.size w7 w') => ref_any (l := l2) _ w' (hE7.kp (hno w' hb) (fun _ _ h => h)) (hR7.below hb) hfw2.out (by have := hcw2.out; omega))
      have hRfM := Lib.hid (fun w' (hb : Below w7.heap.size w7 w') => ref_any (l := l) _ w' (hEl7.kp (hno w' hb) (fun _ _ h => h)) (hRl7.below hb) hfw.out (by have := hcw.out; omega))
      replace hno := Lib.hid hno
      clear hE7 hR7 hO7 hFF7 hk7 hA7 hW2 hEl7 hRl7 hErr2 hE6 hR6
      go_wp2_with fail
      refine (hRfL.out w7 (Below.refl _ _)).mono ?_
      rintro e w8 ⟨oA, yA, rfl, hoA, hDA, hb8⟩
      obtain ⟨AA, cA, rfl, -, -, -⟩ := Rd.own hoA
      have hJA := Lib.hid (joined_any (l := l2) _ w8 hDA (Rd.own hoA) (by have := hcw2.out; omega) (by have := hdw2.out; omega))
      replace hb8 := Lib.hid hb8
      clear hoA hDA
      go_wp2_with fail
      refine hJA.out.mono ?_
      rintro e w9 ⟨oJ, yJ, rfl, hoJ, hDJ, hb9⟩
      obtain ⟨AJ, cJ, rfl, -, -, -⟩ := Rd.own hoJ
      have hz8 := hb8.out.size
      have hb79 := Lib.hid (hb8.out.trans (hb9.mono hz8))
      have hDJ9 := Lib.hid (hDJ.kp (Cn.kp_none hb9) (fun _ _ h => h))
      replace hoJ := Lib.hid hoJ
      clear hDJ hb9 hz8 hJA
      go_wp2_with fail
      refine (hRfM.out w9 hb79.out).mono ?_
      rintro e w10 ⟨oB, yB, rfl, hoB, hDB, hb10⟩
      obtain ⟨AB, cB, rfl, -, -, -⟩ := Rd.own hoB
      have hJB := Lib.hid (joined_any (l := l) _ w10 hDB (Rd.own hoB) (by have := hcw.out; omega) (by have := hdw.out; omega))
      have hz9 := hb79.out.size
      have hb7a := Lib.hid (hb79.out.trans (hb10.mono hz9))
      have hDJa := Lib.hid (hDJ9.out.kp (Cn.kp_none hb10) (fun _ _ h => h))
      have hoJa := Lib.hid (own_below hoJ.out hb10)
      clear hoB hDB hb10 hz9
      go_wp2_with fail
      refine hJB.out.mono ?_
      rintro e w11 ⟨oK, yK, rfl, hoK, hDK, hb11⟩
      rw [← hJJ.out] at hoK hDK
      obtain ⟨AK, cK, rfl, -, -, -⟩ := Rd.own hoK
      have hz10 := hb7a.out.size
      have hb7b := Lib.hid (hb7a.out.trans (hb11.mono hz10))
      have hDKb := hDK.kp (Cn.kp_none hb11) (fun _ _ h => h)
      have hDJb := hDJa.out.kp (Cn.kp_none hb11) (fun _ _ h => h)
      have hSm := Lib.hid (same_yes8 (l := Cn.joined l2) w11 hDJb (Rd.own (own_below hoJa.out hb11)) hDKb (Rd.own hoK) (Cn.joined_few hfw2.out) (by have h1 := Cn.joined_cnt l2; have h2 := hcw2.out; omega))
      clear hoK hDK hb11 hz10 hDKb hDJb hJB
      go_wp2_with fail
      refine hSm.out.mono ?_
      rintro e w12 ⟨rfl, hb12'⟩
      have hBz := Lib.hid (hB7.out.trans ((hb7b.out.trans (hb12'.mono hb7b.out.size)).mono hB7.out.size))
      clear hb12' hSm
      go_wp2
      go_ret
      exact ⟨rfl, hBz.out⟩
  · have hErr : errV (ca, l).1.err = .iface 57 (.int .i64 ca.err) := herr_ne he
    rw [hErr]
    clear hErr hlaw hFF4 hk4 hA4 hW hcv hE4 hR4 hO4
    replace he := Lib.hid he
    go_wp2
    go_ret
    exact ⟨rfl, hB4.out⟩
end Go.Proofs.YtjffffpfejmoiaaGreatDoor
