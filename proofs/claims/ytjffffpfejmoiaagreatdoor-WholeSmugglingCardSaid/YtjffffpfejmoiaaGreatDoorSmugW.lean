/-
  The whole: the walk of WholeSmuggling.
-/
import Derived.Test.YtjffffpfejmoiaaGreatDoorSmugP
import Derived.Test.YtjffffpfejmoiaaGreatDoorHBig
import Derived.Test.YtjffffpfejmoiaaGreatDoorWire
import Derived.Test.YtjffffpfejmoiaaGreatDoorMarkK
namespace Go.Proofs.YtjffffpfejmoiaaGreatDoor
open Go.RowKit Syn Hd Fr Ck
theorem okC_few {p : List UInt8 × List UInt8} (h : okC p = true) : p.1.length ≤ 5000 ∧ p.2.length ≤ 5000 := by
  unfold okC at h
  simp only [Bool.and_eq_true, decide_eq_true_eq] at h
  obtain ⟨h1, h3, h4⟩ := h
  constructor
  · unfold nmE at h1
    split at h1
    · split at h1
      · cases h1
      · omega
    · cases h1
  · unfold vlE at h3
    split at h3
    · split at h3
      · cases h3
      · next h =>
        have : (trim p.2).length = p.2.length := by
          have e : vlV p.2 = trim p.2 := if_pos (by
            unfold vlE
            rw [if_pos (by assumption), if_neg h])
          rw [← e, h4]
        omega
    · cases h3
theorem few_okCs {l : List (List UInt8 × List UInt8)} (h : okCs l = true) (hl : l.length ≤ 100) : Few l :=
  ⟨hl, fun p hp => okC_few (List.all_eq_true.1 h p hp)⟩
theorem own_two (w : World) (t : TypeId) (u1 u2 : Value) {B : Nat} (hB : B ≤ w.heap.size) : Own (w.alloc (.cells #[u1, u2] t)) B t 2 (.slice (some ⟨w.heap.size, 0, none⟩) 1 1) 1 [u1, u2] :=
  ⟨rfl, .inr ⟨w.heap.size, 1, #[u1, u2], rfl, hB, Blk.new w t _, Nat.le_refl _, by decide, rfl, rfl⟩⟩
theorem wqB_short {m t : List UInt8} {f : List (List UInt8 × List UInt8)} (hw : wqE m t f = 0) : (wqB m t f).length ≤ 8192 := by
  obtain ⟨r1, -, -, -, r5⟩ := req_back [] hw
  rw [List.append_nil] at r1 r5
  obtain ⟨n, h1, h2, h3, h4, -⟩ := lnE_ok (rqE_ok r1)
  rw [h1] at r5
  have : n = (wqB m t f).length := by exact_mod_cast r5
  omega
def hostP : List UInt8 × List UInt8 := ([104, 111, 115, 116], [97, 46, 101, 120, 97, 109, 112, 108, 101])
/-- The request's fields. -/
def smugL (ls cs : List (List UInt8)) : List (List UInt8 × List UInt8) := (hostP :: (ls.map fun x => (Fr.cl, x))) ++ (cs.map fun x => (Fr.te, x))
theorem smugL_len (ls cs : List (List UInt8)) : (smugL ls cs).length = ls.length + 1 + cs.length := by unfold smugL; simp; omega
set_option maxRecDepth 100000 in
set_option maxHeartbeats 16000000 in
theorem smug_walk (ls cs : List (List UInt8)) (A1 A2 : Option Addr) (c1 c2 : Nat) (bd : List UInt8) (A3 : Option Addr) (c3 : Nat) (w : World) (h1 : Rd w 1 (.slice A1 ls.length c1) ls.length (strs ls)) (h2 : Rd w 1 (.slice A2 cs.length c2) cs.length (strs cs)) (h3 : Rd w 1 (.slice A3 bd.length c3) bd.length (u8s bd))
    (hl1 : ∀ t ∈ ls, t.length ≤ 140737488355328) (hl2 : ∀ t ∈ cs, t.length ≤ 140737488355328) (hM : MaxL w) :
    Calls Tryz.prog 3 #[.slice A1 ls.length c1, .slice A2 cs.length c2, .slice A3 bd.length c3] w fun e w' => e = .returned (.bool true) ∧ Below w.heap.size w w' := by
  have hAw := Lib.hid (fun w' (hb : Below w.heap.size w w') => wire_any w' (hM.below hb))
  have hs0 : ∀ p ∈ smugL ls cs, p.1.length ≤ 140737488355328 ∧ p.2.length ≤ 140737488355328 := fun p hp => by
    unfold smugL at hp
    rcases List.mem_append.1 hp with hp | hp
    · rcases List.mem_cons.1 hp with rfl | hp
      · exact ⟨by decide, by decide⟩
      · obtain ⟨x, hx, rfl⟩ := List.mem_map.1 hp
        exact ⟨by show Fr.cl.length ≤ _; decide, hl1 x hx⟩
    · obtain ⟨x, hx, rfl⟩ := List.mem_map.1 hp
      exact ⟨by show Fr.te.length ≤ _; decide, hl2 x hx⟩
  clear hl1 hl2
  replace hs0 := Lib.hid hs0
  replace h1 := Lib.hid h1
  replace h2 := Lib.hid h2
  replace h3 := Lib.hid h3
  replace hM := Lib.hid hM
  by_cases n1 : 4 < ls.length
  · go_enter Tryz.func3, Tryz.ntmps3
    go_wp2_with fail
    refine (hAw.out _ (Below.refl _ _)).mono ?_
    rintro e w1 ⟨rfl, hb1⟩
    replace hb1 := Lib.hid hb1
    go_wp2
    go_ret
    exact ⟨rfl, hb1.out⟩
  by_cases n2 : 4 < cs.length
  · go_enter Tryz.func3, Tryz.ntmps3
    go_wp2_with fail
    refine (hAw.out _ (Below.refl _ _)).mono ?_
    rintro e w1 ⟨rfl, hb1⟩
    replace hb1 := Lib.hid hb1
    go_wp2
    go_ret
    exact ⟨rfl, hb1.out⟩
  by_cases n3 : 300 < bd.length
  · go_enter Tryz.func3, Tryz.ntmps3
    go_wp2_with fail
    refine (hAw.out _ (Below.refl _ _)).mono ?_
    rintro e w1 ⟨rfl, hb1⟩
    replace hb1 := Lib.hid hb1
    go_wp2
    go_ret
    exact ⟨rfl, hb1.out⟩
  go_enter Tryz.func3, Tryz.ntmps3
  go_wp2_with fail
  refine (hAw.out _ (Below.refl _ _)).mono ?_
  rintro e w1 ⟨rfl, hb1⟩
  have hb2 := Lib.hid (hb1.alloc hb1.size (.cells #[.string ⟨#[104, 111, 115, 116]⟩, .string ⟨#[97, 46, 101, 120, 97, 109, 112, 108, 101]⟩] 26))
  have ho2 : Hid (Own (w1.alloc (.cells #[.string ⟨#[104, 111, 115, 116]⟩, .string ⟨#[97, 46, 101, 120, 97, 109, 112, 108, 101]⟩] 26)) w.heap.size 26 2 (.slice (some ⟨w1.heap.size, 0, none⟩) 1 1) 1 (prs [hostP])) := Lib.hid (own_two w1 _ _ _ hb1.size)
  clear hb1
  go_wp2
  go_loopw [7, 39] (fun o i wr => ∃ k : Nat, i = .int .i64 (k : Int) ∧ k ≤ ls.length ∧ Hid (Own wr w.heap.size 26 2 o (k + 1) (prs (hostP :: ((ls.take k).map fun x => (Fr.cl, x))))) ∧ Hid (Below w.heap.size w wr)) (fun _ i _ => ls.length - (intOf i).toNat)
  case atStart => exact ⟨0, rfl, Nat.zero_le _, ho2, hb2⟩
  case round =>
    obtain ⟨k, rfl, hk, ho, hB⟩ := hrel
    have hBw := hB.out.size
    by_cases hlt : k < ls.length
    · obtain ⟨A', cap', e', -, -, r'⟩ := h1.out.below hB.out
      cases e'
      obtain ⟨b1, o1, rfl, _, x1⟩ := r' (by omega)
      have d1 : wr.cell? ⟨b1, o1 + k, none⟩ = some (.string (str ls[k])) := x1 k _ (strs_at hlt)
      have htk := Lib.hid (List.take_succ_eq_append_getElem hlt)
      clear x1 r'
      generalize ls[k] = p at *
      go_wp2_with (at_builtin; refine push_pair 28 26 Tryz.underlying28 infoCF _ _ rfl rfl rfl ho.out rfl rfl rfl (by omega) hBw ?_; intro v7 w7 ho7 hb7; replace ho7 := Lib.hid ho7; have hB7 := Lib.hid (hB.out.trans hb7); clear hb7)
      go_roundw
      case rel => exact ⟨k + 1, by go_num, by omega, Lib.hid (by rw [htk.out, List.map_append, ← List.cons_append]; show Own _ _ _ _ _ _ (prs (_ ++ [(Fr.cl, p)])); rw [prs_snoc]; exact ho7.out), hB7⟩
      case measure => simp [intOf]; omega
    · obtain rfl : k = ls.length := by omega
      rw [List.take_length] at ho
      go_wp2
      go_loopw [7, 51] (fun o i wr => ∃ k : Nat, i = .int .i64 (k : Int) ∧ k ≤ cs.length ∧ Hid (Own wr w.heap.size 26 2 o (ls.length + 1 + k) (prs ((hostP :: (ls.map fun x => (Fr.cl, x))) ++ ((cs.take k).map fun x => (Fr.te, x))))) ∧ Hid (Below w.heap.size w wr)) (fun _ i _ => cs.length - (intOf i).toNat)
      case atStart => exact ⟨0, rfl, Nat.zero_le _, Lib.hid (by rw [List.take_zero, List.map_nil, List.append_nil]; exact ho.out), hB⟩
      case round =>
        clear ho hB hBw
        obtain ⟨k, rfl, hk, ho, hB⟩ := hrel
        have hBw := hB.out.size
        by_cases hlt : k < cs.length
        · obtain ⟨A', cap', e', -, -, r'⟩ := h2.out.below hB.out
          cases e'
          obtain ⟨b1, o1, rfl, _, x1⟩ := r' (by omega)
          have d1 : wr.cell? ⟨b1, o1 + k, none⟩ = some (.string (str cs[k])) := x1 k _ (strs_at hlt)
          have htk := Lib.hid (List.take_succ_eq_append_getElem hlt)
          clear x1 r'
          generalize cs[k] = p at *
          go_wp2_with (at_builtin; refine push_pair 28 26 Tryz.underlying28 infoCF _ _ rfl rfl rfl ho.out rfl rfl rfl (by omega) hBw ?_; intro v7 w7 ho7 hb7; replace ho7 := Lib.hid ho7; have hB7 := Lib.hid (hB.out.trans hb7); clear hb7)
          go_roundw
          case rel => exact ⟨k + 1, by go_num, by omega, Lib.hid (by rw [htk.out, List.map_append, ← List.append_assoc]; show Own _ _ _ _ _ _ (prs (_ ++ [(Fr.te, p)])); rw [prs_snoc]; exact ho7.out), hB7⟩
          case measure => simp [intOf]; omega
        · obtain rfl : k = cs.length := by omega
          rw [List.take_length] at ho
          have hln := smugL_len ls cs
          have hRl : Rd wr 2 u7 (smugL ls cs).length (prs (smugL ls cs)) := by rw [hln]; exact Rd.own ho.out
          have hlen : (smugL ls cs).length ≤ 100 := by rw [hln]; omega
          clear ho hln
          have hR1 := Lib.hid hRl
          obtain ⟨A, cap, rfl, -, -, -⟩ := id hRl
          clear hRl
          have hs := hs0
          have hbk := Lib.hid (fun rest ha hw => smug_law (m := [80, 79, 83, 84]) (t := [47]) (l := smugL ls cs) rest hw ha)
          have hfw := Lib.hid (fun hw => few_okCs (wqE_ok (m := [80, 79, 83, 84]) (t := [47]) (l := smugL ls cs) hw) hlen)
          generalize smugL ls cs = L at *
          have hB2 := hB.out.alloc hBw (.cells #[.string ⟨#[80, 79, 83, 84]⟩, .string ⟨#[47]⟩, .slice A L.length cap] 30)
          have hR2 := hR1.out.below ((Below.refl wr.heap.size wr).alloc (Nat.le_refl _) (.cells #[.string ⟨#[80, 79, 83, 84]⟩, .string ⟨#[47]⟩, .slice A L.length cap] 30))
          have hK := Blk.new wr 30 #[.string ⟨#[80, 79, 83, 84]⟩, .string ⟨#[47]⟩, .slice A L.length cap]
          obtain ⟨G, hG⟩ : ∃ G, wr.heap.size = G := ⟨_, rfl⟩
          rw [hG] at hK
          replace hB2 := Lib.hid hB2
          replace hR2 := Lib.hid hR2
          clear hB hR1 hBw
          go_wp2_with fail
          generalize wr.alloc (.cells #[.string ⟨#[80, 79, 83, 84]⟩, .string ⟨#[47]⟩, .slice A L.length cap] 30) = w2 at *
          clear hG
          have hB2s := hB2.out.size
          have hW : Calls Tryz.prog 7 #[.agg #[.string ⟨#[80, 79, 83, 84]⟩, .string ⟨#[47]⟩, .slice A L.length cap]] w2 (WqR w2 [80, 79, 83, 84] [47] L) := wreq_all [80, 79, 83, 84] [47] L (.slice A L.length cap) w2 (by decide) hR2.out hs0.out (by omega)
          refine hW.mono ?_
          clear hW
          rintro e w3 ⟨v, rfl, ho3, hb3⟩
          have hB3 := Lib.hid (Below.next hB2.out hB2.out.size hb3)
          have hR3 := hR2.out.below hb3
          have hs23 := hb3.size
          have hK3 := hK.below hb3
          have c0 : w3.cell? ⟨G, 0, none⟩ = some (.string ⟨#[80, 79, 83, 84]⟩) := hK3.cell 0
          have c1 : w3.cell? ⟨G, 1, none⟩ = some (.string ⟨#[47]⟩) := hK3.cell 1
          have c2 : w3.cell? ⟨G, 2, none⟩ = some (.slice A L.length cap) := hK3.cell 2
          clear hK hK3 hB2 hR2 hb3
          by_cases hz : wqE [80, 79, 83, 84] [47] L = 0
          · have hTl := wqB_short hz
            have hAm := Lib.hid (ambiguous_any L ⟨#[80, 79, 83, 84]⟩ ⟨#[47]⟩ A cap w3 (hfw.out hz) hR3)
            have hbk2 := Lib.hid (fun ha => hbk.out bd ha hz)
            rw [hz, errV_zero]
            clear hbk hfw hR3 hz
            generalize wqB [80, 79, 83, 84] [47] L = T0 at *
            obtain ⟨A3', c3', rfl, -, -, -⟩ := id ho3.rd
            replace ho3 := Lib.hid ho3
            go_wp2_with fail
            refine hAm.out.mono ?_
            rintro e w4 ⟨rfl, hb4⟩
            have hB4 := Lib.hid (Below.next hB3.out hB3.out.size hb4)
            have ho4 := ho3.out.below hb4
            have hs4 := hb4.size
            have hs34 : w2.heap.size ≤ w4.heap.size := Nat.le_trans hs23 hs4
            have hlt := Lib.hid (fun k hk => (ho3.out.lt (k := k) hk))
            clear hb4 hAm c0 c1 c2
            cases ha : amb L
            · clear ho4
              go_wp2
              go_ret
              exact ⟨rfl, hB4.out⟩
            · obtain ⟨s1, s2⟩ := hbk2.out ha
              replace ho4 := Lib.hid ho4
              clear hbk2
              replace s1 := Lib.hid s1
              replace s2 := Lib.hid s2
              go_wp2_with fail
              refine (newreq_any w4).mono ?_
              rintro e w5 ⟨rfl, hw5⟩
              have hA5 : Cn.At w5 w4.heap.size (· = w4.heap.size) (Cn.new false []) := by rw [hw5]; exact newreq_at w4
              have hb5 : Below w4.heap.size w4 w5 := by rw [hw5]; exact (Below.refl _ _).alloc (Nat.le_refl _) _
              clear hw5
              have hB5 := hB4.out.trans (hb5.mono hB4.out.size)
              have hr5 := Lib.hid (h3.out.below hB5)
              have ho5 := Lib.hid (ho4.out.below hb5)
              have hs5 := hb5.size
              have hsz := Lib.hid (show w2.heap.size ≤ w5.heap.size from by have := hb5.size; have := hs34; omega)
              have hlk : ∀ k, (Value.slice A3' T0.length c3').ownBlock = some k → w.heap.size ≤ k ∧ k < w4.heap.size := fun k e => by
                have h := hlt.out k e
                have := hB2s
                omega
              replace hlk := Lib.hid hlk
              replace hB5 := Lib.hid hB5
              have hA5' := Lib.hid hA5
              clear hA5 hB4 hs4 hs5 hlt ho4 hb5
              go_wp2_with (at_builtin; refine step_pushMK _ _ rfl rfl bd ho5.out rfl rfl rfl hr5.out (by omega) hsz.out ?_; intro v6 w6 ho6 hk6; obtain ⟨T, hTT⟩ : ∃ T, T0 ++ bd = T := ⟨_, rfl⟩; rw [hTT] at ho6; obtain ⟨A6, c6, rfl, -, -, -⟩ := id ho6.rd; replace ho6 := Lib.hid ho6; replace hk6 := Lib.hid hk6; replace hTT := Lib.hid hTT)
              have s1' := s1.out
              have s2' := s2.out
              rw [hTT.out] at s1' s2'
              have hTn : T.length ≤ 100000 := by rw [← hTT.out, List.length_append]; omega
              have hA6 := hA5'.out.kp hk6.out (fun k (e : k = w4.heap.size) h => by have := (hlk.out k h).2; omega)
              have hB6 := hB5.out.trans (hk6.out.toBelow hB5.out.size (fun k e => (hlk.out k e).1))
              have hW := connwrite_any hA6 T A6 c6 ho6.out.rd (by show 0 + T.length ≤ 1000000; omega) (fun w' hk => hM.out.below (hB6.trans (hk.toBelow hB6.size (fun k e => by rw [e]; have := hB3.out.size; omega))))
              generalize Cn.write (Cn.new false []) T = r at hW s1' s2'
              obtain ⟨c', l'⟩ := r
              have e1 : c'.err = 31 := s1'
              have e2 : l' = [] := s2'
              subst e2
              have hErr : errV (c', ([] : List Cn.Ev)).1.err = .iface 57 (.int .i64 31) := by show errV c'.err = _; rw [e1]; rfl
              replace hW := Lib.hid hW
              replace hB6 := Lib.hid hB6
              clear s1 s2 s1' s2' e1 hA6 hA5' hB5 hTT ho5 hr5 ho6 hk6
              refine hW.out.mono ?_
              rintro e w7 ⟨o, F', xs, rfl, hE, hR, hO, hFF, hk7, hA7⟩
              rw [hErr]
              have hB7 := Lib.hid (hB6.out.trans (hk7.toBelow hB6.out.size (fun k e => by rw [e]; have := hB3.out.size; omega)))
              have hGa := Lib.hid (gathered_any (l := []) o w7 hE (fun k h => h.2.1) hR (fun e he => by cases he) (by show 0 ≤ 1000000; decide) (by show 0 ≤ 4000000; decide))
              obtain ⟨Ao, co, rfl, -, -, -⟩ := id hR
              clear hE hR hO hFF hk7 hA7 hErr hW
              go_wp2_with fail
              refine hGa.out.mono ?_
              rintro e w8 ⟨v8, rfl, hG8, hb8⟩
              have hB8 := Lib.hid (hB7.out.trans (hb8.mono hB7.out.size))
              obtain ⟨-, rfl⟩ | ⟨init, r, ys0, vf, vb, h0, -⟩ := hG8
              · clear hb8
                go_wp2
                go_ret
                exact ⟨rfl, hB8.out⟩
              · exact absurd (congrArg List.length h0) (by rw [List.length_append, List.length_singleton]; show 0 ≠ _; omega)
          · rw [herr_ne hz]
            clear c0 c1 c2 hR3 hbk hfw
            replace hz := Lib.hid hz
            go_wp2
            go_ret
            exact ⟨rfl, hB3.out⟩
end Go.Proofs.YtjffffpfejmoiaaGreatDoor
