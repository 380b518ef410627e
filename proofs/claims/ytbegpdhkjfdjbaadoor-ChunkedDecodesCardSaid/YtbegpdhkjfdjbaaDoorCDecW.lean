/-
  Layer 7: the walk of ChunkedDecodes.
-/
import Derived.Test.YtbegpdhkjfdjbaaDoorCDecI
import Derived.Test.YtbegpdhkjfdjbaaDoorCOwnSet
import Derived.Test.YtbegpdhkjfdjbaaDoorCCuts
namespace Go.Proofs.YtbegpdhkjfdjbaaDoor
open Go.RowKit Syn Ck

theorem inc8 (c : UInt8) : IntKind.u8.wrap ((c.toNat : Int) + 1) = ((c + 1).toNat : Int) := by
  have h : (c + 1).toNat = (c.toNat + 1) % 256 := by rw [UInt8.toNat_add]; rfl
  rw [h]
  simp [IntKind.wrap, IntKind.signed, IntKind.bits]
namespace Ck
theorem ok_wr : ∀ (l : List UInt8) (s : St), (s.bad = 0 → Ok s) → (Ck.wr s l).1.bad = 0 → Ok (Ck.wr s l).1
  | [], s, h, hb => h hb
  | c :: r, s, h, hb => by
    by_cases hs : s.bad ≠ 0 ∨ s.place = 8
    · rw [wr_stop hs] at hb ⊢; exact h hb
    · by_cases h2 : (Ck.step s c).bad ≠ 0
      · rw [wr_bad hs h2] at hb; exact absurd hb h2
      · rw [wr_go hs h2] at hb ⊢
        exact ok_wr r (Ck.step s c) (fun e => ok_step (h (by omega)) c e) hb
theorem DecI.init {W0 w : World} (hB : Below W0.heap.size W0 w) :
    DecI W0 w.heap.size (w.heap.size + 1) zero zero (· = w.heap.size) none 0 ((w.alloc (.cells (cells 0 0 0 0 0 (.slice none 0 0) false 0 (.slice none 0 0) .nilIface) 68)).alloc (.cells zC 29)) := by
  have hs1 := alloc_size' w (.cells (cells 0 0 0 0 0 (.slice none 0 0) false 0 (.slice none 0 0) .nilIface) 68)
  have hN := Blk.new (w.alloc (.cells (cells 0 0 0 0 0 (.slice none 0 0) false 0 (.slice none 0 0) .nilIface) 68)) 29 zC
  rw [hs1] at hN
  have hsz := hB.size
  refine ⟨(Decv.new w).below ((Below.refl _ _).alloc (Nat.le_refl _) _), hN, Rd.own (own_nil _ 0 64 2), fun h => absurd h (by decide), fun h => absurd h (by decide), by omega, fun j e => by omega, by omega, ?_⟩
  exact (hB.alloc hsz _).alloc (by rw [hs1]; omega) _
theorem DecI.take {W0 w : World} {gd gs : Nat} {sd s s2 : St} {F : Nat → Prop} {A1 A2 : Option Addr} {c1 c2 : Nat} (h : DecI W0 gd gs sd s F A1 c1 w) (hr : Rd w 2 (.slice A2 s2.fields.length c2) s2.fields.length (prs s2.fields))
    (hO : 0 < s2.fields.length → Off (fun j => F j ∨ j = gs) (.slice A2 s2.fields.length c2)) :
    DecI W0 gd gs sd s2 F A2 c2 ((((((((((w.setCell ⟨gs, 0, none⟩ (.int .i64 s2.place)).setCell ⟨gs, 1, none⟩ (.int .i64 s2.digits)).setCell ⟨gs, 2, none⟩ (.int .i64 s2.number)).setCell ⟨gs, 3, none⟩ (.int .i64 s2.line)).setCell ⟨gs, 4, none⟩ (.int .i64 s2.total)).setCell ⟨gs, 5, none⟩ (.int .i64 s2.left)).setCell ⟨gs, 6, none⟩ (.int .i64 s2.sect)).setCell ⟨gs, 7, none⟩ (.string (str s2.text))).setCell ⟨gs, 8, none⟩ (.slice A2 s2.fields.length c2)).setCell ⟨gs, 9, none⟩ (.int .i64 s2.bad)) := by
  have hk := kpTen (F := (· = gs)) (Kp.refl (· = gs) w) (g := gs) rfl (.int .i64 s2.place) (.int .i64 s2.digits) (.int .i64 s2.number) (.int .i64 s2.line) (.int .i64 s2.total) (.int .i64 s2.left) (.int .i64 s2.sect) (.string (str s2.text)) (.slice A2 s2.fields.length c2) (.int .i64 s2.bad)
  exact ⟨h.dec.kp hk (fun j hF e => h.gsF (e ▸ hF)), setTen h.st _ _ _ _ _ _ _ _ _ _, Rd.kp0 hr (fun h0 j hj e => hO h0 j hj (.inr e)) hk, fun h0 j hj e => hO h0 j hj (.inl e), fun h0 j hj e => hO h0 j hj (.inr e), h.gsF, h.old, h.gsB, belowTen h.below h.gsB _ _ _ _ _ _ _ _ _ _⟩
theorem off_mid {w : World} {X : Obj} {F : Nat → Prop} {gs n : Nat} {v : Value} (h : 0 < n → Off (fun j => F j ∨ j = gs ∨ (w.heap.size ≤ j ∧ j < ((w.alloc X).drew).heap.size)) v) : 0 < n → Off (· = w.heap.size) v :=
  fun h0 j hj e => h h0 j hj (.inr (.inr ⟨Nat.le_of_eq e.symm, by rw [e]; show w.heap.size < (w.alloc X).heap.size; rw [alloc_size']; omega⟩))
theorem own_mid {w w' : World} {X : Obj} {e : TypeId} {sz n : Nat} {v : Value} {xs : List Value} (h : Own w' ((w.alloc X).drew).heap.size e sz v n xs) : Off (· = w.heap.size) v :=
  fun j hj e => by
    have h1 := (World.ownsRow.lt h j hj).1
    have h2 : ((w.alloc X).drew).heap.size = w.heap.size + 1 := alloc_size' w X
    omega
end Ck
set_option maxRecDepth 100000 in
set_option maxHeartbeats 16000000 in
theorem decodes_walk (ps : List (List UInt8)) (v : Value) (W0 : World) (hP : Parts W0 v ps) (hs : ∀ p ∈ ps, p.length ≤ 140737488355328) (hm : ps.length ≤ 140737488355328) :
    Calls Tryd.prog 3 #[v] W0 fun e w' => e = .returned (.bool true) ∧ Below W0.heap.size W0 w' := by
  obtain ⟨A, cap, rfl, hcap, -⟩ := id hP
  have hF := Lib.hid (fun w (h : Parts w (.slice A ps.length cap) ps) => fits_any ps _ w h hs hm)
  replace hs := Lib.hid hs
  cases hfb : fitsB ps
  · rw [hfb] at hF
    replace hP := Lib.hid hP
    go_enter Tryd.func3, Tryd.ntmps3
    go_wp2_with fail
    refine (cawake_any _).mono ?_
    rintro e w1 ⟨rfl, hb1⟩
    have hF1 := Lib.hid (hF.out w1 (hP.out.below hb1))
    replace hb1 := Lib.hid hb1
    go_wp2_with fail
    refine hF1.out.mono ?_
    rintro e w2 ⟨rfl, rfl⟩
    go_wp2_with fail
    refine (cawake_any _).mono ?_
    rintro e w3 ⟨rfl, hb3⟩
    have hB3 := Lib.hid (Below.next hb1.out hb1.out.size hb3)
    clear hb3
    go_wp2
    go_ret
    exact ⟨rfl, hB3.out⟩
  · rw [hfb] at hF
    obtain ⟨hn1, hn2⟩ := fitsB_of hfb
    have hbd := Lib.hid (fun k => Nat.le_trans (flat_take_le ps k) hn2)
    replace hP := Lib.hid hP
    clear hfb
    go_enter Tryd.func3, Tryd.ntmps3
    go_wp2_with fail
    refine (cawake_any _).mono ?_
    rintro e w1 ⟨rfl, hb1⟩
    have hF1 := Lib.hid (hF.out w1 (hP.out.below hb1))
    replace hb1 := Lib.hid hb1
    go_wp2_with fail
    refine hF1.out.mono ?_
    rintro e w2 ⟨rfl, hw2⟩
    have hI0 := DecI.init (w := w2) (by rw [hw2]; exact hb1.out)
    have hs3 := alloc_size' w2 (.cells (cells 0 0 0 0 0 (.slice none 0 0) false 0 (.slice none 0 0) .nilIface) 68)
    clear hw2 hF hF1 hb1
    go_wp2_with fail
    refine (cnew_any _).mono ?_
    rintro e w3 ⟨rfl, hw3⟩
    rw [← hw3] at hI0 hs3
    clear hw3
    rw [← hs3] at hI0
    clear hs3
    unfold zC at hI0
    replace hI0 := Lib.hid hI0
    go_wp2_with fail
    generalize w3.heap.size = gs at *
    generalize w2.heap.size = gd at *
    go_loopw [5] (fun i wx => ∃ (k : Nat) (s : St) (F : Nat → Prop) (A1 : Option Addr) (c1 : Nat), i = .int .i64 (k : Int) ∧ k ≤ ps.length ∧ Hid ((Ck.wr zero (ps.take k).flatten).1 = s) ∧ Hid (DecI W0 gd gs s s F A1 c1 wx)) (fun i _ => ps.length - (intOf i).toNat)
    case atStart => exact ⟨0, zero, _, none, 0, rfl, by omega, Lib.hid rfl, hI0⟩
    case round =>
      clear hI0
      obtain ⟨k, s, F, A1, c1, rfl, hk, hrun, hI⟩ := hrel
      by_cases hlt : k < ps.length
      · have hB := hI.out.below
        have hBs := hB.size
        obtain ⟨A', c', e', -, r'⟩ := hP.out
        cases e'
        obtain ⟨b, o, rfl, hbl, hx⟩ := r' (by omega)
        obtain ⟨Ai, ci, d0, hR0⟩ := hx k hlt
        have hd : ∀ w', Below W0.heap.size W0 w' → w'.cell? ⟨b, o + k, none⟩ = some (.slice Ai ps[k].length ci) := fun w' hb => by rw [hb.cell (p := ⟨b, o + k, none⟩) hbl]; exact d0
        have hl2 := hbd.out (k + 1)
        rw [flat_take hlt, List.length_append] at hl2
        have hst := congrArg Prod.fst (wr_append (ps.take k).flatten ps[k] zero)
        rw [hrun.out, ← flat_take hlt] at hst
        simp only at hst
        have hok := ok_wr (ps.take k).flatten zero (fun _ => ok_zero)
        rw [hrun.out] at hok
        have hgd2 := good_of (s0 := zero) (fun h => absurd rfl h) hst
        have hln : ps[k].length ≤ 12000 := by omega
        have hRp : ∀ w', Below W0.heap.size W0 w' → Rd w' 1 (.slice Ai ps[k].length ci) ps[k].length (u8s ps[k]) := fun w' hb => hR0.below hb
        have h1c := u8s_one ps[k]
        generalize ps[k] = p at *
        clear hx r' hR0 d0 hl2
        have hsh := fun w' (h : DecI W0 gd gs s s F A1 c1 w') e w'' (h2 : WriteR w' gd F s p e w'') => h.write h2
        have hRW := fun G w' hr hb hG hO => rwrite_any G s hok p A1 c1 Ai ci w' hr hb (by omega) hG hO
        unfold RWr at hRW
        obtain ⟨⟨s2, o2, m2⟩, hw2⟩ : ∃ r, Ck.wr s p = r := ⟨_, rfl⟩
        rw [hw2] at hst hgd2
        simp only [hw2] at hsh hRW
        unfold sv svC at hRW
        simp only at hst hgd2
        replace hst := Lib.hid hst
        replace hgd2 := Lib.hid hgd2
        replace hsh := Lib.hid hsh
        replace hRW := Lib.hid hRW
        replace hd := Lib.hid hd
        replace hRp := Lib.hid hRp
        replace h1c := Lib.hid h1c
        replace hok := Lib.hid hok
        replace hw2 := Lib.hid hw2
        have hmade := Lib.hid (World.ownsRow_made (base := wr.heap.size) (size := 1) (e := 5) wr #[] 0 (Nat.le_refl _) (Nat.zero_le _) rfl)
        have hB1 := hB.alloc hBs (.cells #[] 5)
        have d2 := hd.out _ hB1
        have d1 := hd.out _ hB
        have hRp1 := Lib.hid (hRp.out _ hB1)
        have hbA := (Below.refl wr.heap.size wr).alloc (Nat.le_refl _) (.cells #[] 5)
        have hsA := alloc_size' wr (.cells #[] 5)
        replace hbA := Lib.hid hbA
        replace hB1 := Lib.hid hB1
        go_wp2_with (at_builtin; go_loud (refine step_pushR (v := Value.slice (some ⟨wr.heap.size, 0, none⟩) 0 0) (n := 0) (m := p.length) (xs := []) (news := u8s p) (c := ci) (A := Ai) (B := wr.heap.size) 30 5 (.int .u8 0) 1 1 _ _ rfl rfl Tryd.underlying30 infoU8 rfl (by decide) (by decide) rfl hmade.out rfl hRp1.out h1c.out (by omega) (by omega) ?_); intro v5 w5 ho5 hg5 hat5; rw [Nat.zero_add, List.nil_append] at ho5; have hb5 := hbA.out.trans (below_grown hmade.out hg5 (by omega)); clear hg5 hat5 d1 d2)
        obtain ⟨A5, c5, rfl, -, -, -⟩ := Rd.own ho5
        have hI5 := hI.out.bel hb5
        have hFlt := fun j (hj : F j) => hI.out.dec.2.1 j hj
        have hglt := hI.out.st.lt
        have hAlt := fun h0 => Rd.lt0 hI.out.rd h0
        have hinB := fun j (hj : (Value.slice A5 p.length c5).ownBlock = some j) => World.ownsRow.lt ho5 j hj
        have hW := write_any s hI5.dec p A5 c5 (Rd.own ho5) (fun _ j hj e => by have := hinB j hj; have := hFlt j e; omega) (by omega)
        have hsh5 := hsh.out w5 hI5
        have hB05 := hb5.size
        clear hsA hbA hmade hRp1 hB1 hB hb5
        replace hW := Lib.hid hW
        replace hsh5 := Lib.hid hsh5
        replace hI5 := Lib.hid hI5
        replace ho5 := Lib.hid ho5
        replace hFlt := Lib.hid hFlt
        replace hinB := Lib.hid hinB
        replace hAlt := Lib.hid hAlt
        clear hsh hI
        generalize wr.heap.size = B0 at *
        clear wr
        go_wp2_with fail
        refine hW.out.mono ?_
        rintro e w6 h6
        obtain ⟨vb, F', rfl, hvb, hofb, hF', hk6, hI6⟩ := hsh5.out e w6 h6
        have hFi : ∀ j, F' j → (Value.slice A5 p.length c5).ownBlock ≠ some j := fun j hj e => by
          have h1 := hinB.out j e
          rcases hF' j hj with h2 | h2
          · have := hFlt.out j h2; omega
          · omega
        have ho6 := Own.kp ho5.out (fun j hj e => by have := hinB.out j hj; have := hFlt.out j e; omega) hk6
        have hgi : (Value.slice A5 p.length c5).ownBlock ≠ some gs := fun e => by have := hinB.out gs e; omega
        have hvi : Off (fun j => (Value.slice A5 p.length c5).ownBlock = some j) vb := fun j hj e => by
          have h1 := hinB.out j e; have h2 := (World.ownsRow.lt hvb j hj).1; omega
        have hold : ∀ j, (Value.slice A5 p.length c5).ownBlock = some j → W0.heap.size ≤ j := fun j e => by have := hinB.out j e; omega
        have hAi : 0 < s.fields.length → Off (fun j => (Value.slice A5 p.length c5).ownBlock = some j) (.slice A1 s.fields.length c1) := fun h0 j hj e => by
          have h1 := hinB.out j e; have h2 := hAlt.out h0 j hj; omega
        have hs6 := hk6.size
        clear hsh5 hW h6 hk6 hF' hofb hI5
        replace hvb := Lib.hid hvb
        replace hI6 := Lib.hid hI6
        replace ho6 := Lib.hid ho6
        replace hFi := Lib.hid hFi
        replace hgi := Lib.hid hgi
        replace hvi := Lib.hid hvi
        replace hold := Lib.hid hold
        replace hAi := Lib.hid hAi
        go_wp2_with fail
        go_loopw [10] (fun i wx => ∃ (j : Nat) (q : List UInt8), i = .int .i64 (j : Int) ∧ j ≤ p.length ∧ q.length = p.length ∧ Hid (Own wx B0 5 1 (.slice A5 p.length c5) p.length (u8s q)) ∧ Hid (Kp (fun j => (Value.slice A5 p.length c5).ownBlock = some j) w6 wx)) (fun i _ => p.length - (intOf i).toNat)
        case atStart => exact ⟨0, p, rfl, by omega, rfl, ho6, Lib.hid (Kp.refl _ _)⟩
        case round =>
          obtain ⟨j, q, rfl, hj, hq, hoq, hkq⟩ := hrel
          by_cases hlj : j < p.length
          · clear ho6 ho5 hI6 hvb hvi hAi hFi hgi hold hinB hRW hd hRp hbd hP
            obtain ⟨g5, rfl⟩ : ∃ g5, A5 = some ⟨g5, 0, none⟩ := by
              obtain ⟨_, ⟨h1, h2⟩ | ⟨g, cap', cur, e, _⟩⟩ := hoq.out
              · exfalso; injection h1; omega
              · injection e with e1; exact ⟨g, e1⟩
            have hlq : j < q.length := by omega
            have hoq2 : Own wr B0 5 1 (.slice (some ⟨g5, 0, none⟩) q.length c5) q.length (u8s q) := by rw [hq]; exact hoq.out
            obtain ⟨hc, hf⟩ := own_cell hoq2 hlq
            have hset := own_set hoq2 j (q[j] + 1)
            rw [List.length_set, hq] at hset
            have hkq2 := hkq.out.set_ (g := g5) (fun _ => rfl) j (.int .u8 ((q[j] + 1).toNat : Int))
            have hwp := inc8 q[j]
            have hlen : (q.set j (q[j] + 1)).length = p.length := by rw [List.length_set]; exact hq
            replace hset := Lib.hid hset
            replace hkq2 := Lib.hid hkq2
            replace hlen := Lib.hid hlen
            clear hoq hoq2 hkq
            go_wp2
            go_roundw
            case rel => exact ⟨j + 1, _, by go_num, by omega, hlen.out, hset, hkq2⟩
            case measure => simp only [intOf]; omega
          · obtain rfl : j = p.length := by omega
            have hI7 := hI6.out.kp hkq.out hFi.out hgi.out hAi.out hold.out
            have hvb7 := Own.kp hvb.out hvi.out hkq.out
            have hs7 : w5.heap.size ≤ wr.heap.size := Nat.le_trans hs6 hkq.out.size
            clear hoq hkq ho6 ho5 hI6 hvb hvi hAi hFi hgi hold hinB hq
            have hgw : gs < wr.heap.size := hI7.st.lt
            have hF7 := hI7.dec.2.1
            have hA7 := fun h0 => Rd.lt0 hI7.rd h0
            have hRW7 := fun w' (hb : Below wr.heap.size wr w') => hRW.out (fun j => F' j ∨ j = gs ∨ (wr.heap.size ≤ j ∧ j < w'.heap.size)) w' (Rd.below hI7.rd hb) (hRp.out w' (Below.next hI7.below hI7.below.size hb)) (fun j e => by
              have := hb.size
              rcases e with e | e | e
              · have := hF7 j e; omega
              · omega
              · exact e.2) (fun h0 j hj e => by
              rcases e with e | e | e
              · exact hI7.offF h0 j hj e
              · exact hI7.offS h0 j hj e
              · have := hA7 h0 j hj; omega)
            have hK : ∀ w', Below wr.heap.size wr w' → (Below wr.heap.size wr w' ∧ w'.cell? ⟨gs, 0, none⟩ = some (.int .i64 (s.place : Int)) ∧ w'.cell? ⟨gs, 1, none⟩ = some (.int .i64 (s.digits : Int)) ∧ w'.cell? ⟨gs, 2, none⟩ = some (.int .i64 (s.number : Int)) ∧ w'.cell? ⟨gs, 3, none⟩ = some (.int .i64 (s.line : Int)) ∧ w'.cell? ⟨gs, 4, none⟩ = some (.int .i64 (s.total : Int)) ∧ w'.cell? ⟨gs, 5, none⟩ = some (.int .i64 (s.left : Int)) ∧ w'.cell? ⟨gs, 6, none⟩ = some (.int .i64 (s.sect : Int)) ∧ w'.cell? ⟨gs, 7, none⟩ = some (.string (str s.text)) ∧ w'.cell? ⟨gs, 8, none⟩ = some (.slice A1 s.fields.length c1) ∧ w'.cell? ⟨gs, 9, none⟩ = some (.int .i64 (s.bad : Int)) ∧ w'.cell? ⟨b, o + k, none⟩ = some (.slice Ai p.length ci)) := fun w' hb' => ⟨hb', (hI7.st.below hb').cell 0, (hI7.st.below hb').cell 1, (hI7.st.below hb').cell 2, (hI7.st.below hb').cell 3, (hI7.st.below hb').cell 4, (hI7.st.below hb').cell 5, (hI7.st.below hb').cell 6, (hI7.st.below hb').cell 7, (hI7.st.below hb').cell 8, (hI7.st.below hb').cell 9, hd.out w' (Below.next hI7.below hI7.below.size hb')⟩
            have hS7 := hI7.st
            unfold svC at hS7
            have q0 := hS7.cell 0
            have q1 := hS7.cell 1
            have q2 := hS7.cell 2
            have q3 := hS7.cell 3
            have q4 := hS7.cell 4
            have q5 := hS7.cell 5
            have q6 := hS7.cell 6
            have q7 := hS7.cell 7
            have q8 := hS7.cell 8
            have q9 := hS7.cell 9
            replace hS7 := Lib.hid hS7
            have d7 := hd.out wr hI7.below
            replace hK := Lib.hid hK
            replace hRW7 := Lib.hid hRW7
            replace hI7 := Lib.hid hI7
            replace hF7 := Lib.hid hF7
            replace hA7 := Lib.hid hA7
            replace hvb7 := Lib.hid hvb7
            clear hRW hok
            go_upto_region 14 with (fail)
            go_cut [11, 12, 13] (fun v11 v12 v13 wx => ∃ (g9 : Nat) (A2 : Option Addr) (c2 : Nat), v11 = .pointer (some ⟨g9, 0, none⟩) ∧ v13 = .int .i64 (m2 : Int) ∧ wr.heap.size ≤ g9 ∧ Blk wx g9 29 (svC s2 (.slice A2 s2.fields.length c2)) ∧ Rd wx 2 (.slice A2 s2.fields.length c2) s2.fields.length (prs s2.fields) ∧
              (0 < s2.fields.length → Off (fun j => F' j ∨ j = gs) (.slice A2 s2.fields.length c2)) ∧ Own wx wr.heap.size 5 1 v12 o2.length (u8s o2) ∧ Below wr.heap.size wr wx)
            case first =>
              go_wp2_with fail
              go_region_held3 (fun w' => Below wr.heap.size wr w' ∧ w'.cell? ⟨gs, 0, none⟩ = some (.int .i64 (s.place : Int)) ∧ w'.cell? ⟨gs, 1, none⟩ = some (.int .i64 (s.digits : Int)) ∧ w'.cell? ⟨gs, 2, none⟩ = some (.int .i64 (s.number : Int)) ∧ w'.cell? ⟨gs, 3, none⟩ = some (.int .i64 (s.line : Int)) ∧ w'.cell? ⟨gs, 4, none⟩ = some (.int .i64 (s.total : Int)) ∧ w'.cell? ⟨gs, 5, none⟩ = some (.int .i64 (s.left : Int)) ∧ w'.cell? ⟨gs, 6, none⟩ = some (.int .i64 (s.sect : Int)) ∧ w'.cell? ⟨gs, 7, none⟩ = some (.string (str s.text)) ∧ w'.cell? ⟨gs, 8, none⟩ = some (.slice A1 s.fields.length c1) ∧ w'.cell? ⟨gs, 9, none⟩ = some (.int .i64 (s.bad : Int)) ∧ w'.cell? ⟨b, o + k, none⟩ = some (.slice Ai p.length ci))
                (first | exact hK.out _ (by first | with_reducible exact Below.refl _ _ | with_reducible exact (Below.refl _ _).drew | with_reducible exact (Below.refl _ _).alloc (Nat.le_refl _) _ | with_reducible exact ((Below.refl _ _).alloc (Nat.le_refl _) _).drew | with_reducible exact ((Below.refl _ _).drew).alloc (Nat.le_refl _) _ | with_reducible exact belowTen (by with_reducible assumption) (Nat.le_refl _) _ _ _ _ _ _ _ _ _ _ | with_reducible exact Below.alloc (by with_reducible assumption) (Below.size (by with_reducible assumption)) _ | with_reducible assumption))
                (first | (go_at_call 14; refine (hRW7.out _ (by first | with_reducible exact Below.refl _ _ | with_reducible exact (Below.refl _ _).drew | with_reducible exact (Below.refl _ _).alloc (Nat.le_refl _) _ | with_reducible exact ((Below.refl _ _).alloc (Nat.le_refl _) _).drew | with_reducible exact ((Below.refl _ _).drew).alloc (Nat.le_refl _) _ | with_reducible exact belowTen (by with_reducible assumption) (Nat.le_refl _) _ _ _ _ _ _ _ _ _ _ | with_reducible exact Below.alloc (by with_reducible assumption) (Below.size (by with_reducible assumption)) _ | with_reducible assumption)).mono ?_; rintro e w8 ⟨A2, c2, vo, rfl, hr2, hvo, hb8, hG2⟩; have hL8 := Below.next (B := wr.heap.size) (a := wr) (by first | with_reducible exact Below.refl _ _ | with_reducible exact (Below.refl _ _).drew | with_reducible exact (Below.refl _ _).alloc (Nat.le_refl _) _ | with_reducible exact ((Below.refl _ _).alloc (Nat.le_refl _) _).drew | with_reducible exact ((Below.refl _ _).drew).alloc (Nat.le_refl _) _ | with_reducible exact belowTen (by with_reducible assumption) (Nat.le_refl _) _ _ _ _ _ _ _ _ _ _ | with_reducible exact Below.alloc (by with_reducible assumption) (Below.size (by with_reducible assumption)) _ | with_reducible assumption) (by simp) hb8; have hs8 := hL8.size; (try have p1b := Blk.below (show Blk ((wr.alloc (.cells #[.int .i64 0, .int .i64 0, .int .i64 0, .int .i64 0, .int .i64 0, .int .i64 0, .int .i64 0, .string ⟨#[]⟩, .slice none 0 0, .int .i64 0] 29)).drew) wr.heap.size 29 #[.int .i64 0, .int .i64 0, .int .i64 0, .int .i64 0, .int .i64 0, .int .i64 0, .int .i64 0, .string ⟨#[]⟩, .slice none 0 0, .int .i64 0] from Blk.new wr _ _) hb8); (try have m0 := p1b.cell 0); (try have r0 := p1b.frozen 0); (try have m1 := p1b.cell 1); (try have r1 := p1b.frozen 1); (try have m2 := p1b.cell 2); (try have r2 := p1b.frozen 2); (try have m3 := p1b.cell 3); (try have r3 := p1b.frozen 3); (try have m4 := p1b.cell 4); (try have r4 := p1b.frozen 4); (try have m5 := p1b.cell 5); (try have r5 := p1b.frozen 5); (try have m6 := p1b.cell 6); (try have r6 := p1b.frozen 6); (try have m7 := p1b.cell 7); (try have r7 := p1b.frozen 7); (try have m8 := p1b.cell 8); (try have r8 := p1b.frozen 8); (try have m9 := p1b.cell 9); (try have r9 := p1b.frozen 9); have hoff2 : 0 < s2.fields.length → Off (fun j => F' j ∨ j = gs) (.slice A2 s2.fields.length c2) := (fun h0 j hj e => hG2 h0 j hj (e.elim .inl (fun e => .inr (.inl e)))); (try have hoff1 := off_mid hG2); (try have hvo1 := own_mid hvo); replace hvo := Own.base hvo (B' := wr.heap.size) (by first | exact Nat.le_refl _ | simp); clear hG2 hb8))
              all_goals
                go_wp2_with fail
                go_meet
                refine ⟨_, A2, c2, rfl, rfl, ?_, ?_, ?_, hoff2, ?_, ?_⟩
                · first | exact Nat.le_refl _ | exact hs8
                · unfold svC; first | with_reducible exact Blk.new w8 _ _ | with_reducible exact setTen p1b _ _ _ _ _ _ _ _ _ _
                · have hk8 := kpTen (F := (· = wr.heap.size)) (Kp.refl (· = wr.heap.size) w8) (g := wr.heap.size) rfl
                  first | exact Rd.kp0 hr2 hoff1 (hk8 _ _ _ _ _ _ _ _ _ _) | exact Rd.below hr2 ((Below.refl w8.heap.size w8).alloc (Nat.le_refl _) _)
                · have hk8 := kpTen (F := (· = wr.heap.size)) (Kp.refl (· = wr.heap.size) w8) (g := wr.heap.size) rfl
                  first | exact Own.kp hvo hvo1 (hk8 _ _ _ _ _ _ _ _ _ _) | exact own_below hvo ((Below.refl w8.heap.size w8).alloc (Nat.le_refl _) _)
                · first | with_reducible exact hL8.alloc hs8 _ | with_reducible exact belowTen hL8 (Nat.le_refl _) _ _ _ _ _ _ _ _ _ _
            case rest =>
              obtain ⟨g9, A2, c2, rfl, rfl, hg9, hb9, hr2, hoff2, hvo, hBx⟩ := hcut
              rename World => wx
              clear q0 q1 q2 q3 q4 q5 q6 q7 q8 q9 d7
              have hIx := hI7.out.bel hBx
              have hIt := hIx.take hr2 hoff2
              have hkx := kpTen (F := (· = gs)) (Kp.refl (· = gs) wx) (g := gs) rfl (.int .i64 s2.place) (.int .i64 s2.digits) (.int .i64 s2.number) (.int .i64 s2.line) (.int .i64 s2.total) (.int .i64 s2.left) (.int .i64 s2.sect) (.string (str s2.text)) (.slice A2 s2.fields.length c2) (.int .i64 s2.bad)
              have hvoz := Own.kp hvo (fun j hj e => by have h1 := (World.ownsRow.lt hvo j hj).1; omega) hkx
              have hvbz := Own.kp (own_below hvb7.out hBx) (fun j hj e => by have h1 := (World.ownsRow.lt hvb7.out j hj).1; omega) hkx
              have hSx := hIx.st
              unfold svC at hb9 hSx
              have e0 := hb9.cell 0
              have e1 := hb9.cell 1
              have e2 := hb9.cell 2
              have e3 := hb9.cell 3
              have e4 := hb9.cell 4
              have e5 := hb9.cell 5
              have e6 := hb9.cell 6
              have e7 := hb9.cell 7
              have e8 := hb9.cell 8
              have e9 := hb9.cell 9
              have q0 := hSx.cell 0
              have y0 := hSx.frozen 0
              have q1 := hSx.cell 1
              have y1 := hSx.frozen 1
              have q2 := hSx.cell 2
              have y2 := hSx.frozen 2
              have q3 := hSx.cell 3
              have y3 := hSx.frozen 3
              have q4 := hSx.cell 4
              have y4 := hSx.frozen 4
              have q5 := hSx.cell 5
              have y5 := hSx.frozen 5
              have q6 := hSx.cell 6
              have y6 := hSx.frozen 6
              have q7 := hSx.cell 7
              have y7 := hSx.frozen 7
              have q8 := hSx.cell 8
              have y8 := hSx.frozen 8
              have q9 := hSx.cell 9
              have y9 := hSx.frozen 9
              replace hIt := Lib.hid hIt
              replace hvoz := Lib.hid hvoz
              replace hvbz := Lib.hid hvbz
              clear hI7 hIx hvb7 hvo hr2 hoff2 hRW7 hK hkx hSx hb9 hF7 hA7 hS7 hBx
              go_upto_region 15 with (fail)
              go_cut [] (fun wz => DecI W0 gd gs s2 s2 F' A2 c2 wz ∧ Own wz w5.heap.size 5 1 vb o2.length (u8s o2) ∧ Own wz wr.heap.size 5 1 u12 o2.length (u8s o2))
              case first =>
                go_wp2_with fail
                go_meet
                exact ⟨hIt.out, hvbz.out, hvoz.out⟩
              case rest =>
                obtain ⟨hI9, hvb9, hvo9⟩ := hcut
                rename World => w9
                clear hIt hvoz hvbz e0 e1 e2 e3 e4 e5 e6 e7 e8 e9 q0 q1 q2 q3 q4 q5 q6 q7 q8 q9 y0 y1 y2 y3 y4 y5 y6 y7 y8 y9
                have hS9 := hI9.st
                unfold svC at hS9
                have hK : ∀ w', Below w9.heap.size w9 w' → (Below w9.heap.size w9 w' ∧ w'.cell? ⟨gs, 0, none⟩ = some (.int .i64 (s2.place : Int)) ∧ w'.cell? ⟨gs, 1, none⟩ = some (.int .i64 (s2.digits : Int)) ∧ w'.cell? ⟨gs, 2, none⟩ = some (.int .i64 (s2.number : Int)) ∧ w'.cell? ⟨gs, 3, none⟩ = some (.int .i64 (s2.line : Int)) ∧ w'.cell? ⟨gs, 4, none⟩ = some (.int .i64 (s2.total : Int)) ∧ w'.cell? ⟨gs, 5, none⟩ = some (.int .i64 (s2.left : Int)) ∧ w'.cell? ⟨gs, 6, none⟩ = some (.int .i64 (s2.sect : Int)) ∧ w'.cell? ⟨gs, 7, none⟩ = some (.string (str s2.text)) ∧ w'.cell? ⟨gs, 8, none⟩ = some (.slice A2 s2.fields.length c2) ∧ w'.cell? ⟨gs, 9, none⟩ = some (.int .i64 (s2.bad : Int))) := fun w' hb' => ⟨hb', (hS9.below hb').cell 0, (hS9.below hb').cell 1, (hS9.below hb').cell 2, (hS9.below hb').cell 3, (hS9.below hb').cell 4, (hS9.below hb').cell 5, (hS9.below hb').cell 6, (hS9.below hb').cell 7, (hS9.below hb').cell 8, (hS9.below hb').cell 9⟩
                have hby : ∀ w', Below w9.heap.size w9 w' → Calls Tryd.prog 15 #[vb, u12] w' fun e w'' => e = .returned (.bool true) ∧ w'' = w' := fun w' hb' => by
                  have h := bytes_any w' (own_below hvb9 hb') (own_below hvo9 hb')
                  rw [decide_eq_true (show o2 = o2 from rfl)] at h; exact h
                have hcd := fun w' (hb' : Below w9.heap.size w9 w') => cdone_any (hI9.bel hb').dec
                have hrd := fun w' => rdone_any s2 A2 s2.fields.length c2 w'
                unfold sv svC at hrd
                have q0 := hS9.cell 0
                have q1 := hS9.cell 1
                have q2 := hS9.cell 2
                have q3 := hS9.cell 3
                have q4 := hS9.cell 4
                have q5 := hS9.cell 5
                have q6 := hS9.cell 6
                have q7 := hS9.cell 7
                have q8 := hS9.cell 8
                have q9 := hS9.cell 9
                have z1 := bne_self_eq_false (m2 : Int)
                have z2 := bne_self_eq_false (s2.bad : Int)
                have z3 := bne_self_eq_false (decide (s2.place = 8))
                replace hK := Lib.hid hK
                replace hby := Lib.hid hby
                replace hcd := Lib.hid hcd
                replace hrd := Lib.hid hrd
                replace hI9 := Lib.hid hI9
                replace hS9 := Lib.hid hS9
                clear hvb9 hvo9
                go_upto_region 16 with (fail)
                go_cut [88] (fun v88 wz => v88 = .bool false ∧ Below w9.heap.size w9 wz)
                case first =>
                  clear hd hRp h1c hw2 hst hgd2 hP hbd hs hrun
                  generalize decide (s2.place = 8) = dn at *
                  go_wp2_with fail
                  go_region_held3 (fun w' => Below w9.heap.size w9 w' ∧ w'.cell? ⟨gs, 0, none⟩ = some (.int .i64 (s2.place : Int)) ∧ w'.cell? ⟨gs, 1, none⟩ = some (.int .i64 (s2.digits : Int)) ∧ w'.cell? ⟨gs, 2, none⟩ = some (.int .i64 (s2.number : Int)) ∧ w'.cell? ⟨gs, 3, none⟩ = some (.int .i64 (s2.line : Int)) ∧ w'.cell? ⟨gs, 4, none⟩ = some (.int .i64 (s2.total : Int)) ∧ w'.cell? ⟨gs, 5, none⟩ = some (.int .i64 (s2.left : Int)) ∧ w'.cell? ⟨gs, 6, none⟩ = some (.int .i64 (s2.sect : Int)) ∧ w'.cell? ⟨gs, 7, none⟩ = some (.string (str s2.text)) ∧ w'.cell? ⟨gs, 8, none⟩ = some (.slice A2 s2.fields.length c2) ∧ w'.cell? ⟨gs, 9, none⟩ = some (.int .i64 (s2.bad : Int)))
                    (first | exact hK.out _ (by first | with_reducible exact Below.refl _ _ | with_reducible exact (Below.refl _ _).drew | with_reducible exact (Below.refl _ _).alloc (Nat.le_refl _) _ | with_reducible exact ((Below.refl _ _).alloc (Nat.le_refl _) _).drew | with_reducible exact ((Below.refl _ _).drew).alloc (Nat.le_refl _) _ | with_reducible exact belowTen (by with_reducible assumption) (Nat.le_refl _) _ _ _ _ _ _ _ _ _ _ | with_reducible exact Below.alloc (by with_reducible assumption) (Below.size (by with_reducible assumption)) _ | with_reducible assumption))
                    (first | (go_at_call 15; refine (hby.out _ (by first | with_reducible exact Below.refl _ _ | with_reducible exact (Below.refl _ _).drew | with_reducible exact (Below.refl _ _).alloc (Nat.le_refl _) _ | with_reducible exact ((Below.refl _ _).alloc (Nat.le_refl _) _).drew | with_reducible exact ((Below.refl _ _).drew).alloc (Nat.le_refl _) _ | with_reducible exact belowTen (by with_reducible assumption) (Nat.le_refl _) _ _ _ _ _ _ _ _ _ _ | with_reducible exact Below.alloc (by with_reducible assumption) (Below.size (by with_reducible assumption)) _ | with_reducible assumption)).mono ?_; rintro e w10 ⟨rfl, rfl⟩) | (go_at_call 16; refine (num_any _ _).mono ?_; rintro e w10 ⟨rfl, rfl⟩) | (go_at_call 17; refine (hcd.out _ (by first | with_reducible exact Below.refl _ _ | with_reducible exact (Below.refl _ _).drew | with_reducible exact (Below.refl _ _).alloc (Nat.le_refl _) _ | with_reducible exact ((Below.refl _ _).alloc (Nat.le_refl _) _).drew | with_reducible exact ((Below.refl _ _).drew).alloc (Nat.le_refl _) _ | with_reducible exact belowTen (by with_reducible assumption) (Nat.le_refl _) _ _ _ _ _ _ _ _ _ _ | with_reducible exact Below.alloc (by with_reducible assumption) (Below.size (by with_reducible assumption)) _ | with_reducible assumption)).mono ?_; rintro e w10 ⟨rfl, rfl⟩) | (go_at_call 18; refine (hrd.out _).mono ?_; rintro e w10 ⟨rfl, rfl⟩))
                  all_goals
                    go_wp2_with fail
                    go_meet
                    exact ⟨by first | rfl | simp, (by first | with_reducible exact Below.refl _ _ | with_reducible exact (Below.refl _ _).drew | with_reducible exact (Below.refl _ _).alloc (Nat.le_refl _) _ | with_reducible exact ((Below.refl _ _).alloc (Nat.le_refl _) _).drew | with_reducible exact ((Below.refl _ _).drew).alloc (Nat.le_refl _) _ | with_reducible exact belowTen (by with_reducible assumption) (Nat.le_refl _) _ _ _ _ _ _ _ _ _ _ | with_reducible exact Below.alloc (by with_reducible assumption) (Below.size (by with_reducible assumption)) _ | with_reducible assumption)⟩
                case rest =>
                  obtain ⟨rfl, hb10⟩ := hcut
                  rename World => w10
                  clear q0 q1 q2 q3 q4 q5 q6 q7 q8 q9 hby hcd hK hrd
                  have hI10 := hI9.out.bel hb10
                  clear hb10
                  have hS10 := hI10.st
                  unfold svC at hS10
                  have q0 := hS10.cell 0
                  have q1 := hS10.cell 1
                  have q2 := hS10.cell 2
                  have q3 := hS10.cell 3
                  have q4 := hS10.cell 4
                  have q5 := hS10.cell 5
                  have q6 := hS10.cell 6
                  have q7 := hS10.cell 7
                  have q8 := hS10.cell 8
                  have q9 := hS10.cell 9
                  replace hI10 := Lib.hid hI10
                  replace hS10 := Lib.hid hS10
                  have hrd := fun w' => rdone_any s2 A2 s2.fields.length c2 w'
                  unfold sv svC at hrd
                  by_cases h8 : s2.place = 8
                  · have hlen8 := trl_le hI10.out.dec hgd2.out
                    have hTr : ∀ w', Below w10.heap.size w10 w' → Calls Tryd.prog 20 #[.pointer (some ⟨gd, 0, none⟩)] w' fun e w'' => ∃ v, e = .returned v ∧ Own w'' w'.heap.size 64 2 v (trl s2).length (prs (trl s2)) ∧ Below w'.heap.size w' w'' := fun w' hb => ctrail_any ((hI10.out.bel hb).dec) hgd2.out
                    have htl : trl s2 = s2.fields := if_pos h8
                    rw [htl] at hTr hlen8
                    rw [decide_eq_true h8] at hrd
                    replace h8 := Lib.hid h8
                    replace hTr := Lib.hid hTr
                    replace hrd := Lib.hid hrd
                    go_wp2_with fail
                    refine (hrd.out _).mono ?_
                    rintro e w11 ⟨rfl, hw11⟩
                    have hb11 : Below w10.heap.size w10 w11 := by rw [hw11]; exact (Below.refl _ _).alloc (Nat.le_refl _) _
                    clear hw11
                    have hTr11 := Lib.hid (hTr.out w11 hb11)
                    have hI11 := Lib.hid (hI10.out.bel hb11)
                    clear hb11 q0 q1 q2 q3 q4 q5 q6 q7 q8 q9
                    go_wp2_with fail
                    refine hTr11.out.mono ?_
                    rintro e w12 ⟨v12, rfl, ho12, hb12⟩
                    have hI12 := Lib.hid (hI11.out.bel hb12)
                    have hAr := Lib.hid (are_any w12 (Rd.own ho12) hI12.out.rd rfl (by omega))
                    clear ho12 hb12
                    go_wp2_with fail
                    refine hAr.out.mono ?_
                    rintro e w13 ⟨rfl, n13, rfl⟩
                    have hI13 := Lib.hid (hI12.out.bel (below_drewN (Below.refl _ _) n13))
                    generalize w12.drewN n13 = wz at *
                    go_wp2
                    go_roundw
                    case rel => exact ⟨k + 1, s2, F', A2, c2, by go_num, by omega, hst, hI13⟩
                    case measure => simp only [intOf]; omega
                  · skip
                    have hTr : ∀ w', Below w10.heap.size w10 w' → Calls Tryd.prog 20 #[.pointer (some ⟨gd, 0, none⟩)] w' fun e w'' => ∃ v, e = .returned v ∧ Own w'' w'.heap.size 64 2 v (trl s2).length (prs (trl s2)) ∧ Below w'.heap.size w' w'' := fun w' hb => ctrail_any ((hI10.out.bel hb).dec) hgd2.out
                    have htl : trl s2 = [] := if_neg h8
                    rw [htl] at hTr
                    rw [decide_eq_false h8] at hrd
                    replace h8 := Lib.hid h8
                    replace hTr := Lib.hid hTr
                    replace hrd := Lib.hid hrd
                    go_wp2_with fail
                    refine (hrd.out _).mono ?_
                    rintro e w11 ⟨rfl, hw11⟩
                    have hb11 : Below w10.heap.size w10 w11 := by rw [hw11]; exact (Below.refl _ _).alloc (Nat.le_refl _) _
                    clear hw11
                    have hTr11 := Lib.hid (hTr.out w11 hb11)
                    have hI11 := Lib.hid (hI10.out.bel hb11)
                    clear hb11 q0 q1 q2 q3 q4 q5 q6 q7 q8 q9
                    go_wp2_with fail
                    refine hTr11.out.mono ?_
                    rintro e w12 ⟨v12, rfl, ho12, hb12⟩
                    have hI12 := Lib.hid (hI11.out.bel hb12)
                    have hAr := Lib.hid (are_any (l2 := []) w12 (Rd.own ho12) (Rd.own (own_nil w12 0 5 2)) rfl (by simp))
                    clear ho12 hb12
                    go_wp2_with fail
                    refine hAr.out.mono ?_
                    rintro e w13 ⟨rfl, n13, rfl⟩
                    have hI13 := Lib.hid (hI12.out.bel (below_drewN (Below.refl _ _) n13))
                    generalize w12.drewN n13 = wz at *
                    go_wp2
                    go_roundw
                    case rel => exact ⟨k + 1, s2, F', A2, c2, by go_num, by omega, hst, hI13⟩
                    case measure => simp only [intOf]; omega
      · obtain rfl : k = ps.length := by omega
        clear hbd hs hP hrun
        go_wp2
        go_ret
        exact ⟨rfl, hI.out.below⟩
end Go.Proofs.YtbegpdhkjfdjbaaDoor
