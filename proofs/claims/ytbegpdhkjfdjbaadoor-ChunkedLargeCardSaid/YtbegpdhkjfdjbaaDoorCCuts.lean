/-
  Layer 7: the walk of ChunkedCuts.
-/
import Derived.Test.YtbegpdhkjfdjbaaDoorCCutI
namespace Go.Proofs.YtbegpdhkjfdjbaaDoor
open Go.RowKit Syn Ck

namespace Ck
/-- The decoder's fields that are trailers. -/
def trl (s : St) : List (List UInt8 × List UInt8) := if s.place = 8 then s.fields else []
theorem trl_le {w : World} {g : Nat} {F : Nat → Prop} {s : St} {ev : Value} (h : Decv w g F s ev) (hg : s.place = 8 → s.bad = 0) : (trl s).length ≤ 64 := by
  unfold trl
  split
  · rename_i h8
    obtain ⟨_, _, p, l, d, z, t, vt, ca, tr, vf, hb, h7, hR⟩ := h
    exact (hR (hg h8)).1.fields
  · simp
theorem good_of {s s0 : St} {l : List UInt8} (h0 : s0.bad ≠ 0 → s0.place ≠ 8) (h : (wr s0 l).1 = s) : s.place = 8 → s.bad = 0 := by
  intro h8
  rcases Nat.eq_zero_or_pos s.bad with h1 | h1
  · exact h1
  · exact absurd h8 (by rw [← h]; exact wr_good l s0 h0 (by rw [h]; omega))
end Ck
set_option maxRecDepth 100000 in
set_option maxHeartbeats 16000000 in
theorem cuts_walk (ps : List (List UInt8)) (v : Value) (W0 : World) (hP : Parts W0 v ps) (hs : ∀ p ∈ ps, p.length ≤ 140737488355328) (hm : ps.length ≤ 140737488355328) :
    Calls Tryd.prog 4 #[v] W0 fun e w' => e = .returned (.bool true) ∧ Below W0.heap.size W0 w' := by
  obtain ⟨A, cap, rfl, hcap, -⟩ := id hP
  have hF := Lib.hid (fun w (h : Parts w (.slice A ps.length cap) ps) => fits_any ps _ w h hs hm)
  replace hs := Lib.hid hs
  cases hfb : fitsB ps
  · rw [hfb] at hF
    replace hP := Lib.hid hP
    go_enter Tryd.func4, Tryd.ntmps4
    go_wp2_with fail
    refine (cawake_any _).mono ?_
    rintro e w1 ⟨rfl, hb1⟩
    have hF1 := Lib.hid (hF.out w1 (hP.out.below hb1))
    replace hb1 := Lib.hid hb1
    go_wp2_with fail
    refine hF1.out.mono ?_
    rintro e w2 ⟨rfl, rfl⟩
    go_wp2_with fail
    refine (cawake_any _).mono ?_
    rintro e w3 ⟨rfl, hb3⟩
    have hB3 := Lib.hid (Below.next hb1.out hb1.out.size hb3)
    clear hb3
    go_wp2
    go_ret
    exact ⟨rfl, hB3.out⟩
  · rw [hfb] at hF
    obtain ⟨hn1, hn2⟩ := fitsB_of hfb
    have hbd := Lib.hid (fun k => Nat.le_trans (flat_take_le ps k) hn2)
    replace hP := Lib.hid hP
    clear hfb
    go_enter Tryd.func4, Tryd.ntmps4
    go_wp2_with fail
    refine (cawake_any _).mono ?_
    rintro e w1 ⟨rfl, hb1⟩
    have hF1 := Lib.hid (hF.out w1 (hP.out.below hb1))
    replace hb1 := Lib.hid hb1
    go_wp2_with fail
    refine hF1.out.mono ?_
    rintro e w2 ⟨rfl, rfl⟩
    go_wp2
    go_loopw [3, 5] (fun a i wx => ∃ k : Nat, i = .int .i64 (k : Int) ∧ k ≤ ps.length ∧ Hid (Own wx W0.heap.size 5 1 a (ps.take k).flatten.length (u8s (ps.take k).flatten)) ∧ Hid (Below W0.heap.size W0 wx)) (fun _ i _ => ps.length - (intOf i).toNat)
    case atStart => exact ⟨0, rfl, by omega, own_nil _ _ _ _, hb1⟩
    case round =>
      obtain ⟨k, rfl, hk, ho, hB⟩ := hrel
      have hBs := hB.out.size
      by_cases hlt : k < ps.length
      · obtain ⟨A', c', e', -, r'⟩ := hP.out.below hB.out
        cases e'
        obtain ⟨b, o, rfl, hbl, hx⟩ := r' (by omega)
        obtain ⟨Ai, ci, d1, hRk⟩ := hx k hlt
        have hl1 := hbd.out k
        have hl2 := hbd.out (k + 1)
        rw [flat_take hlt, List.length_append] at hl2
        have hft := Lib.hid (flat_take hlt)
        obtain ⟨Aa, ca, rfl, -, -, -⟩ := Rd.own ho.out
        have h1c := Lib.hid (u8s_one ps[k])
        clear hx r'
        generalize ps[k] = p at *
        generalize (ps.take k).flatten = fl at *
        replace hRk := Lib.hid hRk
        go_wp2_with (at_builtin; go_loud (refine step_pushR (v := Value.slice Aa fl.length ca) (n := fl.length) (m := p.length) (xs := u8s fl) (news := u8s p) (c := ci) (A := Ai) (B := W0.heap.size) 30 5 (.int .u8 0) 1 1 _ _ rfl rfl Tryd.underlying30 infoU8 rfl (by decide) (by decide) rfl ho.out rfl hRk.out h1c.out (by omega) hBs ?_); intro v5 w5 ho5 hg5 hat5; have hB5 := Lib.hid (hB.out.trans (below_grown ho.out hg5 hBs)); replace ho5 := Lib.hid ho5; clear hg5 hat5)
        go_roundw
        case rel => exact ⟨k + 1, by go_num, by omega, Lib.hid (by rw [hft.out, List.length_append, u8s_app]; exact ho5.out), hB5⟩
        case measure => simp only [intOf]; omega
      · obtain rfl : k = ps.length := by omega
        rw [List.take_length] at ho
        clear hb1 hF1
        obtain ⟨fl, hfl⟩ : ∃ fl, ps.flatten = fl := ⟨_, rfl⟩
        have hn3 : fl.length ≤ 12000 := by rw [← hfl]; exact hn2
        rw [hfl] at ho
        replace hn2 := Lib.hid hn2
        replace hfl := Lib.hid hfl
        obtain ⟨Aa, ca, rfl, hca, -, -⟩ := Rd.own ho.out
        go_wp2_with fail
        have hs3 := alloc_size' wr (.cells (cells 0 0 0 0 0 (.slice none 0 0) false 0 (.slice none 0 0) .nilIface) 68)
        have hD3 := Decv.new wr
        have hB3 := hB.out.alloc hBs (.cells (cells 0 0 0 0 0 (.slice none 0 0) false 0 (.slice none 0 0) .nilIface) 68)
        have ho3 := ho.out.alloc (.cells (cells 0 0 0 0 0 (.slice none 0 0) false 0 (.slice none 0 0) .nilIface) 68)
        have hlo := fun j (hj : (Value.slice Aa fl.length ca).ownBlock = some j) => ho.out.lt hj
        refine (cnew_any _).mono ?_
        rintro e w3 ⟨rfl, hw3⟩
        rw [← hw3] at hs3 hD3 hB3 ho3
        clear hw3
        have hs4 := alloc_size' w3 (.cells (cells 0 0 0 0 0 (.slice none 0 0) false 0 (.slice none 0 0) .nilIface) 68)
        have hD4 := Decv.new w3
        have hD4a := hD3.below ((Below.refl w3.heap.size w3).alloc (Nat.le_refl _) (.cells (cells 0 0 0 0 0 (.slice none 0 0) false 0 (.slice none 0 0) .nilIface) 68))
        have hB4 := hB3.alloc hB3.size (.cells (cells 0 0 0 0 0 (.slice none 0 0) false 0 (.slice none 0 0) .nilIface) 68)
        have ho4 := ho3.alloc (.cells (cells 0 0 0 0 0 (.slice none 0 0) false 0 (.slice none 0 0) .nilIface) 68)
        replace hD3 := Lib.hid hD3
        replace hB3 := Lib.hid hB3
        replace ho3 := Lib.hid ho3
        replace hlo := Lib.hid hlo
        go_wp2_with fail
        refine (cnew_any _).mono ?_
        rintro e w4 ⟨rfl, hw4⟩
        rw [← hw4] at hs4 hD4 hD4a hB4 ho4
        clear hw4
        rw [hs3] at hD4 hs4
        have hW := write_any zero hD4a fl Aa ca (Rd.own ho4) (fun _ j hj e => by have := hlo.out j hj; omega) (by omega)
        have hc12 := wr_count fl zero
        obtain ⟨⟨sa, wl, na⟩, hwr⟩ : ∃ r, Ck.wr zero fl = r := ⟨_, rfl⟩
        unfold WriteR at hW
        rw [hwr] at hW hc12
        simp only at hW hc12
        replace hW := Lib.hid hW
        replace hD4 := Lib.hid hD4
        replace hD4a := Lib.hid hD4a
        replace hB4 := Lib.hid hB4
        replace ho4 := Lib.hid ho4
        replace hwr := Lib.hid hwr
        go_wp2_with fail
        refine hW.out.mono ?_
        rintro e w5 ⟨want, Fa, rfl, how, hofw, hda, hFa, hkp⟩
        have hs5 := hkp.size
        have C5 : CutI W0 w5.heap.size wr.heap.size (wr.heap.size + 1) Fa sa want wl zero [] (.slice none 0 0) (· = wr.heap.size + 1) w5 := by
          refine ⟨own_nil _ _ _ _, fun j hj => (by cases hj), hD4.out.kp hkp (fun j h e => by omega), hda, fun j hj e => ?_, hda.2.1, how.base (Nat.zero_le _), fun j hj => how.lt hj, fun j hj e => ?_, fun j e => by omega, hB4.out.trans (hkp.toBelow (by omega) (fun j e => by omega)), Nat.le_refl _, by omega⟩
          · rcases hFa j hj with h | h <;> omega
          · have := (World.ownsRow.lt how j hj).1; omega
        replace C5 := Lib.hid C5
        clear how hofw hda hFa hkp hF hB ho hD4 hD4a hB4 ho4 hD3 hB3 ho3 hlo hs4 hs3 hBs hW
        have hga0 : (0 : Nat) ≤ wr.heap.size := Nat.zero_le _
        generalize wr.heap.size = ga at *
        go_wp2_with fail
        go_loopw [4, 11, 12, 13] (fun got tk code i wx => ∃ (k : Nat) (s : St) (out : List UInt8) (cnt : Nat) (Fb : Nat → Prop), i = .int .i64 (k : Int) ∧ k ≤ ps.length ∧ tk = .int .i64 (cnt : Int) ∧ code = .int .i64 (s.bad : Int) ∧ Hid (Ck.wr zero (ps.take k).flatten = (s, out, cnt)) ∧
            Hid (CutI W0 w5.heap.size ga (ga + 1) Fa sa want wl s out got Fb wx)) (fun _ _ _ i _ => ps.length - (intOf i).toNat)
        case atStart => exact ⟨0, zero, [], 0, _, rfl, by omega, rfl, rfl, Lib.hid rfl, C5⟩
        case round =>
          obtain ⟨k, s, out, cnt, Fb, rfl, hk, rfl, rfl, hrun, hC⟩ := hrel
          by_cases hlt : k < ps.length
          · have hCb := hC.out.below
            obtain ⟨A', c', e', -, r'⟩ := hP.out
            cases e'
            obtain ⟨b, o, rfl, hbl, hx⟩ := r' (by omega)
            obtain ⟨Ai, ci, d0, hR0⟩ := hx k hlt
            have d1 : wr.cell? ⟨b, o + k, none⟩ = some (.slice Ai ps[k].length ci) := by rw [hCb.cell (p := ⟨b, o + k, none⟩) hbl]; exact d0
            have hl2 := hbd.out (k + 1)
            rw [flat_take hlt, List.length_append] at hl2
            have hoff : 0 < ps[k].length → Off Fb (.slice Ai ps[k].length ci) := fun h0 j hj e => by
              obtain ⟨A2, c2, e2, -, -, h2⟩ := hR0
              cases e2
              obtain ⟨b2, o2, e3, hb2, -⟩ := h2 h0
              rw [e3] at hj
              have hj' : b2 = j := Option.some.inj hj
              have := hC.out.old j e
              omega
            have hW := write_any s hC.out.db ps[k] Ai ci (hR0.below hCb) hoff (by omega)
            have hst := wr_append (ps.take k).flatten ps[k] zero
            rw [hrun.out, ← flat_take hlt] at hst
            have hcn := wr_count (ps.take k).flatten zero
            rw [hrun.out] at hcn
            have hdc0 := wr_data_count (ps.take k).flatten zero
            rw [hrun.out] at hdc0
            have hgz := wr_good (ps.take k).flatten zero (fun h => absurd rfl h)
            rw [hrun.out] at hgz
            simp only at hst hcn hgz hdc0
            have hcw : ∀ e w', WriteR wr (ga + 1) Fb s ps[k] e w' → _ := fun e w' h => hC.out.write h
            have hsh := wr_short ps[k] s
            have hmc := wr_count ps[k] s
            have hdc := wr_data_count ps[k] s
            have hstp : s.bad ≠ 0 → Ck.wr s ps[k] = (s, [], 0) := fun h => wr_stop (.inl h) _
            obtain ⟨⟨s2, o2, m2⟩, hw2⟩ : ∃ r, Ck.wr s ps[k] = r := ⟨_, rfl⟩
            have hd6 : ∀ w', Below W0.heap.size W0 w' → w'.cell? ⟨b, o + k, none⟩ = some (.slice Ai ps[k].length ci) := fun w' hb => by rw [hb.cell (p := ⟨b, o + k, none⟩) hbl]; exact d0
            rw [hw2] at hst hcw hsh hmc hdc hstp
            simp only at hst hcw hsh hmc hdc
            have hln : ps[k].length ≤ 12000 := by omega
            have h1c := Lib.hid (u8s_one o2)
            generalize ps[k] = p at *
            generalize (ps.take k).flatten.length = nfl at *
            replace hW := Lib.hid hW
            replace hcw := Lib.hid hcw
            replace hw2 := Lib.hid hw2
            replace hst := Lib.hid hst
            replace hd6 := Lib.hid hd6
            clear hx r' hR0 d0 hCb hoff hgz hrun
            by_cases hb0 : s.bad = 0
            · clear hstp
              by_cases hb2 : s2.bad = 0
              · have hnum := num_nil
                by_cases hml : m2 < p.length
                · have h8 := hsh hb2 hml
                  clear hsh
                  rw [hb2, show errV ((0 : Nat) : Int) = .nilIface from rfl] at hcw
                  have q0 : ((s.bad : Int) != 0) = false := by rw [hb0]; rfl
                  replace hb0 := Lib.hid hb0
                  replace hb2 := Lib.hid hb2
                  have q1 : (m2 : Int) < (p.length : Int) := by omega
                  go_wp2_with fail
                  refine hW.out.mono ?_
                  rintro e w6 h6
                  obtain ⟨vb, Fb', rfl, hob, hC6⟩ := hcw.out e w6 h6
                  have hD6 := Lib.hid hC6.db
                  have d6 := hd6.out w6 hC6.below
                  have hs6 := hC6.size
                  obtain ⟨Av, cv, rfl, -⟩ := Rd.own hob
                  obtain ⟨Ag, cg, rfl, -⟩ := Rd.own hC6.hgot
                  have hRb := Lib.hid (Rd.own hob)
                  replace hC6 := Lib.hid hC6
                  replace h6 := Lib.hid h6
                  replace hob := Lib.hid hob
                  have hdn := cdone_any hD6.out
                  rw [decide_eq_true h8] at hdn
                  replace hdn := Lib.hid hdn
                  replace h8 := Lib.hid h8
                  go_wp2_with fail
                  refine hdn.out.mono ?_
                  rintro e w7 ⟨rfl, rfl⟩
                  go_wp2_with (at_builtin; go_loud (refine step_pushR (v := Value.slice Ag out.length cg) (n := out.length) (m := o2.length) (xs := u8s out) (news := u8s o2) (c := cv) (A := Av) (B := w5.heap.size) 30 5 (.int .u8 0) 1 1 _ _ rfl rfl Tryd.underlying30 infoU8 rfl (by decide) (by decide) rfl hC6.out.hgot rfl hRb.out h1c.out (by omega) hs6 ?_); intro v8 w8 ho8 hg8 hat8; have hC8 := Lib.hid (hC6.out.grow (out2 := o2) hg8 ho8 hat8); clear ho8 hg8 hat8)
                  refine (num_nil _).mono ?_
                  rintro e w9 ⟨rfl, rfl⟩
                  go_wp2
                  go_roundw
                  case rel => exact ⟨k + 1, s2, out ++ o2, cnt + m2, Fb', by go_num, by omega, by go_num, by rw [hb2.out]; rfl, hst, hC8⟩
                  case measure => simp only [intOf]; omega
                · clear hsh
                  rw [hb2, show errV ((0 : Nat) : Int) = .nilIface from rfl] at hcw
                  have q0 : ((s.bad : Int) != 0) = false := by rw [hb0]; rfl
                  replace hb0 := Lib.hid hb0
                  replace hb2 := Lib.hid hb2
                  have q1 : ¬ (m2 : Int) < (p.length : Int) := by omega
                  go_wp2_with fail
                  refine hW.out.mono ?_
                  rintro e w6 h6
                  obtain ⟨vb, Fb', rfl, hob, hC6⟩ := hcw.out e w6 h6
                  have hD6 := Lib.hid hC6.db
                  have d6 := hd6.out w6 hC6.below
                  have hs6 := hC6.size
                  obtain ⟨Av, cv, rfl, -⟩ := Rd.own hob
                  obtain ⟨Ag, cg, rfl, -⟩ := Rd.own hC6.hgot
                  have hRb := Lib.hid (Rd.own hob)
                  replace hC6 := Lib.hid hC6
                  replace h6 := Lib.hid h6
                  replace hob := Lib.hid hob
                  go_wp2_with (at_builtin; go_loud (refine step_pushR (v := Value.slice Ag out.length cg) (n := out.length) (m := o2.length) (xs := u8s out) (news := u8s o2) (c := cv) (A := Av) (B := w5.heap.size) 30 5 (.int .u8 0) 1 1 _ _ rfl rfl Tryd.underlying30 infoU8 rfl (by decide) (by decide) rfl hC6.out.hgot rfl hRb.out h1c.out (by omega) hs6 ?_); intro v8 w8 ho8 hg8 hat8; have hC8 := Lib.hid (hC6.out.grow (out2 := o2) hg8 ho8 hat8); clear ho8 hg8 hat8)
                  refine (num_nil _).mono ?_
                  rintro e w9 ⟨rfl, rfl⟩
                  go_wp2
                  go_roundw
                  case rel => exact ⟨k + 1, s2, out ++ o2, cnt + m2, Fb', by go_num, by omega, by go_num, by rw [hb2.out]; rfl, hst, hC8⟩
                  case measure => simp only [intOf]; omega
              · clear hsh
                have hev := errV_ne (n := (s2.bad : Int)) (by omega)
                rw [hev] at hcw
                replace hev := Lib.hid hev
                have q0 : ((s.bad : Int) != 0) = false := by rw [hb0]; rfl
                replace hb0 := Lib.hid hb0
                replace hb2 := Lib.hid hb2
                go_wp2_with fail
                refine hW.out.mono ?_
                rintro e w6 h6
                obtain ⟨vb, Fb', rfl, hob, hC6⟩ := hcw.out e w6 h6
                have hD6 := Lib.hid hC6.db
                have d6 := hd6.out w6 hC6.below
                have hs6 := hC6.size
                obtain ⟨Av, cv, rfl, -⟩ := Rd.own hob
                obtain ⟨Ag, cg, rfl, -⟩ := Rd.own hC6.hgot
                have hRb := Lib.hid (Rd.own hob)
                replace hC6 := Lib.hid hC6
                replace h6 := Lib.hid h6
                replace hob := Lib.hid hob
                go_wp2_with (at_builtin; go_loud (refine step_pushR (v := Value.slice Ag out.length cg) (n := out.length) (m := o2.length) (xs := u8s out) (news := u8s o2) (c := cv) (A := Av) (B := w5.heap.size) 30 5 (.int .u8 0) 1 1 _ _ rfl rfl Tryd.underlying30 infoU8 rfl (by decide) (by decide) rfl hC6.out.hgot rfl hRb.out h1c.out (by omega) hs6 ?_); intro v8 w8 ho8 hg8 hat8; have hC8 := Lib.hid (hC6.out.grow (out2 := o2) hg8 ho8 hat8); clear ho8 hg8 hat8)
                refine (num_errno _ _).mono ?_
                rintro e w9 ⟨rfl, rfl⟩
                go_wp2
                go_roundw
                case rel => exact ⟨k + 1, s2, out ++ o2, cnt + m2, Fb', by go_num, by omega, by go_num, rfl, hst, hC8⟩
                case measure => simp only [intOf]; omega
            · obtain ⟨rfl, rfl, rfl⟩ : s2 = s ∧ o2 = [] ∧ m2 = 0 := by have h := hstp hb0; simp only [Prod.mk.injEq] at h; exact h
              clear hstp hsh
              have hev := errV_ne (n := (s2.bad : Int)) (by omega)
              rw [hev] at hcw
              replace hev := Lib.hid hev
              have q0 : ((s2.bad : Int) != 0) = true := by rw [bne_iff_ne]; omega
              have q9 : ((s2.bad : Int) != (s2.bad : Int)) = false := bne_self_eq_false _
              replace hb0 := Lib.hid hb0
              go_wp2_with fail
              refine hW.out.mono ?_
              rintro e w6 h6
              obtain ⟨vb, Fb', rfl, hob, hC6⟩ := hcw.out e w6 h6
              have hD6 := Lib.hid hC6.db
              have d6 := hd6.out w6 hC6.below
              have hs6 := hC6.size
              obtain ⟨Av, cv, rfl, -⟩ := Rd.own hob
              obtain ⟨Ag, cg, rfl, -⟩ := Rd.own hC6.hgot
              have hRb := Lib.hid (Rd.own hob)
              replace hC6 := Lib.hid hC6
              replace h6 := Lib.hid h6
              replace hob := Lib.hid hob
              go_wp2_with fail
              refine (num_errno _ _).mono ?_
              rintro e w7 ⟨rfl, rfl⟩
              go_wp2_with (at_builtin; go_loud (refine step_pushR (v := Value.slice Ag out.length cg) (n := out.length) (m := 0) (xs := u8s out) (news := u8s ([] : List UInt8)) (c := cv) (A := Av) (B := w5.heap.size) 30 5 (.int .u8 0) 1 1 _ _ rfl rfl Tryd.underlying30 infoU8 rfl (by decide) (by decide) rfl hC6.out.hgot rfl hRb.out h1c.out (by omega) hs6 ?_); intro v8 w8 ho8 hg8 hat8; have hC8 := Lib.hid (hC6.out.grow (out2 := ([] : List UInt8)) hg8 ho8 hat8); clear ho8 hg8 hat8)
              refine (num_errno _ _).mono ?_
              rintro e w9 ⟨rfl, rfl⟩
              go_wp2
              go_roundw
              case rel => exact ⟨k + 1, s2, out ++ ([] : List UInt8), cnt + 0, Fb', by go_num, by omega, by go_num, rfl, hst, hC8⟩
              case measure => simp only [intOf]; omega
          · obtain rfl : k = ps.length := by omega
            rw [List.take_length, hfl.out, hwr.out] at hrun
            have hrun' := hrun.out
            simp only [Prod.mk.injEq] at hrun'
            obtain ⟨rfl, rfl, rfl⟩ := hrun'
            have hgd := good_of (s0 := zero) (fun h => absurd rfl h) (congrArg Prod.fst hwr.out)
            simp only at hgd
            have hby := Lib.hid (bytes_any wr hC.out.hgot hC.out.hwant)
            have hda := Lib.hid (cdone_any hC.out.da)
            have hdb := Lib.hid (cdone_any hC.out.db)
            have hTa := Lib.hid (ctrail_any hC.out.da hgd)
            have htl := trl_le hC.out.da hgd
            have hq1 := beq_self_eq_true (na : Int)
            have hq2 := beq_self_eq_true (sa.bad : Int)
            have hTb : Hid (∀ w', Below wr.heap.size wr w' → Calls Tryd.prog 20 #[.pointer (some ⟨ga + 1, 0, none⟩)] w' fun e w'' => ∃ v, e = .returned v ∧ Own w'' w'.heap.size 64 2 v (trl sa).length (prs (trl sa)) ∧ Below w'.heap.size w' w'') :=
              Lib.hid (fun w' hb => ctrail_any (hC.out.step hb).db hgd)
            rw [decide_eq_true (show wl = wl from rfl)] at hby
            have hB := Lib.hid hC.out.below
            clear hrun hP hwr hC
            by_cases hz : ps.length = 0
            · have hz' : ((ps.length : Int) == 0) = true := beq_cast_true hz
              replace hz := Lib.hid hz
              go_wp2_with fail
              refine hby.out.mono ?_
              rintro e w6 ⟨rfl, rfl⟩
              generalize decide (sa.place = 8) = dn at *
              have hq3 := beq_self_eq_true dn
              go_wp2_with fail
              refine hda.out.mono ?_
              rintro e w6 ⟨rfl, rfl⟩
              go_wp2_with fail
              refine hdb.out.mono ?_
              rintro e w6 ⟨rfl, rfl⟩
              go_wp2_with fail
              refine hTa.out.mono ?_
              rintro e w7 ⟨v7, rfl, ho7, hb7⟩
              have hTb7 := Lib.hid (hTb.out w7 hb7)
              have hB7 := Lib.hid (Below.next hB.out hB.out.size hb7)
              replace ho7 : Hid (Own w7 w6.heap.size 64 2 v7 (trl sa).length (prs (trl sa))) := Lib.hid ho7
              replace hb7 := Lib.hid hb7
              go_wp2_with fail
              refine hTb7.out.mono ?_
              rintro e w8 ⟨v8, rfl, ho8, hb8⟩
              have hB8 := Lib.hid (Below.next hB7.out hB7.out.size hb8)
              have ho78 := Lib.hid (own_below ho7.out hb8)
              have hRf := Lib.hid (refs_any (trl sa) v8 w8 (by omega) (Rd.own ho8))
              clear hb8 ho8
              go_wp2_with fail
              refine hRf.out.mono ?_
              rintro e w9 ⟨v9, rfl, ho9, hb9⟩
              have hB9 := Lib.hid (Below.next hB8.out hB8.out.size hb9)
              have hAr := Lib.hid (are_any w9 (Rd.own (own_below ho78.out hb9)) (Rd.own ho9) rfl (by omega))
              clear hb9 ho9
              go_wp2_with fail
              refine hAr.out.mono ?_
              rintro e w10 ⟨rfl, n10, rfl⟩
              have hB10 := Lib.hid (below_drewN hB9.out n10)
              generalize w9.drewN n10 = wz at *
              go_wp2
              go_ret
              exact ⟨rfl, hB10.out⟩
            · have hz' : ((ps.length : Int) == 0) = false := beq_cast_false hz
              replace hz := Lib.hid hz
              go_wp2_with fail
              refine hby.out.mono ?_
              rintro e w6 ⟨rfl, rfl⟩
              go_wp2_with fail
              refine (num_any _ _).mono ?_
              rintro e w6 ⟨rfl, rfl⟩
              generalize decide (sa.place = 8) = dn at *
              have hq3 := beq_self_eq_true dn
              go_wp2_with fail
              refine hda.out.mono ?_
              rintro e w6 ⟨rfl, rfl⟩
              go_wp2_with fail
              refine hdb.out.mono ?_
              rintro e w6 ⟨rfl, rfl⟩
              go_wp2_with fail
              refine hTa.out.mono ?_
              rintro e w7 ⟨v7, rfl, ho7, hb7⟩
              have hTb7 := Lib.hid (hTb.out w7 hb7)
              have hB7 := Lib.hid (Below.next hB.out hB.out.size hb7)
              replace ho7 : Hid (Own w7 w6.heap.size 64 2 v7 (trl sa).length (prs (trl sa))) := Lib.hid ho7
              replace hb7 := Lib.hid hb7
              go_wp2_with fail
              refine hTb7.out.mono ?_
              rintro e w8 ⟨v8, rfl, ho8, hb8⟩
              have hB8 := Lib.hid (Below.next hB7.out hB7.out.size hb8)
              have ho78 := Lib.hid (own_below ho7.out hb8)
              have hRf := Lib.hid (refs_any (trl sa) v8 w8 (by omega) (Rd.own ho8))
              clear hb8 ho8
              go_wp2_with fail
              refine hRf.out.mono ?_
              rintro e w9 ⟨v9, rfl, ho9, hb9⟩
              have hB9 := Lib.hid (Below.next hB8.out hB8.out.size hb9)
              have hAr := Lib.hid (are_any w9 (Rd.own (own_below ho78.out hb9)) (Rd.own ho9) rfl (by omega))
              clear hb9 ho9
              go_wp2_with fail
              refine hAr.out.mono ?_
              rintro e w10 ⟨rfl, n10, rfl⟩
              have hB10 := Lib.hid (below_drewN hB9.out n10)
              generalize w9.drewN n10 = wz at *
              go_wp2
              go_ret
              exact ⟨rfl, hB10.out⟩
end Go.Proofs.YtbegpdhkjfdjbaaDoor
