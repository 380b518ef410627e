/-
  Layer 7: the walk of ChunkedEncodes.
-/
import Derived.Test.YtbegpdhkjfdjbaaDoorCFew
import Derived.Test.YtbegpdhkjfdjbaaDoorCEnc
import Derived.Test.YtbegpdhkjfdjbaaDoorCRChunk
import Derived.Test.YtbegpdhkjfdjbaaDoorCRLast
namespace Go.Proofs.YtbegpdhkjfdjbaaDoor
open Go.RowKit Syn Ck

/-- append of bytes onto an owned row, at an operation that is guarded. -/
theorem step_push8W {ops : Array Oper} {rest : List Oper} {o : Oper} {a : Act} {Q : Exit → Act → World → Prop} {w : World} (s x : Operand)
    (hw : Region.wanted o (yielded ops a.tmps) = true) (ho : o.op = .call { callee := .builtin .append, args := #[s, x], argTypes := #[30, 30] })
    {B c : Nat} {v : Value} {L M : List UInt8} {A : Option Addr} (hs : a.eval s = v) (hown : Own w B 5 1 v L.length (u8s L)) (hx : a.eval x = .slice A M.length c) (hR : Rd w 1 (.slice A M.length c) M.length (u8s M)) (hn : L.length + M.length ≤ 10000000000) (hB : B ≤ w.heap.size)
    (h : ∀ v' w', Own w' B 5 1 v' (L ++ M).length (u8s (L ++ M)) → w.grownBy w' v.ownBlock → (v'.ownBlock = v.ownBlock ∨ v'.ownBlock = some w.heap.size) → wpList Tryd.prog ops Q rest (a.put o.dst v') w') : wpList Tryd.prog ops Q (o :: rest) a w := by
  refine wpList_step fun K hK => ?_
  rw [if_pos hw]
  obtain ⟨v', w', hr, h2, h3, h4⟩ := run_push8 w o.type hown hR hn hB
  unfold Oper.wp execOp
  simp only [ho, resolve, invoke, builtin, Sem.run_bind, Sem.run_pure, Result.andThen_ok, List.map_toArray, List.map_cons, List.map_nil, hs, hx, hr]
  exact hK _ _ (h v' w' h2 h3 h4)
set_option maxRecDepth 100000 in
set_option maxHeartbeats 16000000 in
theorem encodes_walk (ps : List (List UInt8)) (l : List (List UInt8 × List UInt8)) (v vl : Value) (W0 : World) (hP : Parts W0 v ps) (hs : ∀ p ∈ ps, p.length ≤ 140737488355328) (hm : ps.length ≤ 140737488355328)
    (hR : Rd W0 2 vl l.length (prs l)) (hl : ∀ p ∈ l, p.1.length ≤ 140737488355328 ∧ p.2.length ≤ 140737488355328) (hlm : l.length ≤ 140737488355328) (hT : W0.cell? ⟨5, 15, none⟩ = some (.int .u8 4)) :
    Calls Tryd.prog 7 #[v, vl] W0 fun e w' => e = .returned (.bool true) ∧ Below W0.heap.size W0 w' := by
  obtain ⟨A, cap, rfl, hcap, -⟩ := id hP
  obtain ⟨Al, cl, rfl, hcl, -⟩ := id hR
  have h5 := cell_lt hT
  have hF := Lib.hid (fun w (h : Parts w (.slice A ps.length cap) ps) => fits_any ps _ w h hs hm)
  have hG := Lib.hid (fun w (h : Rd w 2 (.slice Al l.length cl) l.length (prs l)) => few_any l _ w h hl hlm)
  replace hs := Lib.hid hs
  replace hl := Lib.hid hl
  replace hR := Lib.hid hR
  replace hT := Lib.hid hT
  cases hfb : fitsB ps
  · rw [hfb] at hF
    replace hP := Lib.hid hP
    go_enter Tryd.func7, Tryd.ntmps7
    go_wp2_with fail
    refine (cawake_any _).mono ?_
    rintro e w1 ⟨rfl, hb1⟩
    have hF1 := Lib.hid (hF.out w1 (hP.out.below hb1))
    replace hb1 := Lib.hid hb1
    go_wp2_with fail
    refine hF1.out.mono ?_
    rintro e w2 ⟨rfl, rfl⟩
    go_wp2_with fail
    refine (cawake_any _).mono ?_
    rintro e w3 ⟨rfl, hb3⟩
    have hB3 := Lib.hid (Below.next hb1.out hb1.out.size hb3)
    clear hb3
    go_wp2
    go_ret
    exact ⟨rfl, hB3.out⟩
  · rw [hfb] at hF
    obtain ⟨hn1, hn2⟩ := fitsB_of hfb
    have hbd := Lib.hid (fun k => Nat.le_trans (flat_take_le ps k) hn2)
    replace hP := Lib.hid hP
    clear hfb
    go_enter Tryd.func7, Tryd.ntmps7
    go_wp2_with fail
    refine (cawake_any _).mono ?_
    rintro e w1 ⟨rfl, hb1⟩
    have hF1 := Lib.hid (hF.out w1 (hP.out.below hb1))
    have hG1 := Lib.hid (hG.out w1 (hR.out.below hb1))
    replace hb1 := Lib.hid hb1
    go_wp2_with fail
    refine hF1.out.mono ?_
    rintro e w2 ⟨rfl, rfl⟩
    go_wp2_with fail
    refine hG1.out.mono ?_
    rintro e w3 ⟨fb, rfl, hfew, n3, hw3⟩
    have hb3 := Lib.hid (show Below W0.heap.size W0 w3 by rw [hw3]; exact below_drewN hb1.out n3)
    clear hw3 hG1 hF1 hb1
    cases fb with
    | false =>
      clear hfew
      go_wp2_with fail
      refine (cawake_any _).mono ?_
      rintro e w4 ⟨rfl, hb4⟩
      have hB4 := Lib.hid (Below.next hb3.out hb3.out.size hb4)
      clear hb4
      go_wp2
      go_ret
      exact ⟨rfl, hB4.out⟩
    | true =>
      obtain ⟨hl80, hlb⟩ := hfew rfl
      have hls : ∀ p ∈ l, p.1.length ≤ 100000 ∧ p.2.length ≤ 100000 := fun p hp => by have := bulk_mem hp; omega
      have hps : ∀ p ∈ ps, p.length ≤ 1000000 := fun p hp => by
        obtain ⟨k, hk, rfl⟩ := List.getElem_of_mem hp
        have := flat_at ps hk
        omega
      have hcle := chks_le ps hps
      clear hfew hlb
      replace hls := Lib.hid hls
      replace hps := Lib.hid hps
      go_wp2
      go_loopw [5, 6] (fun o i wr => ∃ k : Nat, i = .int .i64 (k : Int) ∧ k ≤ ps.length ∧ Hid (Own wr W0.heap.size 5 1 o (chks (ps.take k)).length (u8s (chks (ps.take k)))) ∧ Hid (Below W0.heap.size W0 wr)) (fun _ i _ => ps.length - (intOf i).toNat)
      case atStart => exact ⟨0, rfl, by omega, Lib.hid (own_nil _ _ _ _), hb3⟩
      case round =>
        obtain ⟨k, rfl, hk, ho, hB⟩ := hrel
        have hBs := hB.out.size
        by_cases hlt : k < ps.length
        · obtain ⟨A', c', e', -, r'⟩ := hP.out
          cases e'
          obtain ⟨b, o, rfl, hbl, hx⟩ := r' (by omega)
          obtain ⟨Ai, ci, d0, hR0⟩ := hx k hlt
          have hd : Hid (∀ w', Below W0.heap.size W0 w' → w'.cell? ⟨b, o + k, none⟩ = some (.slice Ai ps[k].length ci) ∧ Rd w' 1 (.slice Ai ps[k].length ci) ps[k].length (u8s ps[k])) := Lib.hid (fun w' hb => ⟨by rw [hb.cell (p := ⟨b, o + k, none⟩) hbl]; exact d0, hR0.below hb⟩)
          obtain ⟨d1, -⟩ := hd.out wr hB.out
          have hpl := hps.out ps[k] (List.getElem_mem hlt)
          have hfa := flat_at ps hlt
          have hct := chks_take hlt
          have hcl2 := chks_le (ps.take k) (fun p h => hps.out p (List.mem_of_mem_take h))
          have hcl3 := flat_take_le ps k
          rw [List.length_take, Nat.min_eq_left hk] at hcl2
          have hck := chk_le ps[k] hpl
          obtain ⟨Ao, co, rfl, -⟩ := Rd.own ho.out
          generalize ps[k] = p at *
          have hC := fun w' (hb : Below W0.heap.size W0 w') => chunk_any p Ai ci w' (hd.out w' hb).2 (by omega) ((hb.cell h5).trans hT.out)
          have hRC := rchunk_any p (.slice Ai p.length ci) wr (hd.out wr hB.out).2 (by omega)
          obtain ⟨cs, hcs⟩ : ∃ cs, chks (ps.take k) = cs := ⟨_, rfl⟩
          rw [hcs] at ho hct hcl2 ⊢
          replace hct := Lib.hid hct
          replace hcs := Lib.hid hcs
          obtain ⟨cp, hcp⟩ : ∃ cp, chk p = cp := ⟨_, rfl⟩
          rw [hcp] at hct hck hRC
          have h1c := Lib.hid (u8s_one cp)
          simp only [hcp] at hC
          replace hcp := Lib.hid hcp
          clear hx r' d0 hR0
          replace hC := Lib.hid hC
          replace hRC := Lib.hid hRC
          go_wp2_with fail
          refine hRC.out.mono ?_
          rintro e w4 ⟨v4, rfl, hO4, hb4⟩
          have hB4 := Lib.hid (Below.next hB.out hBs hb4)
          have ho4 := Lib.hid (own_below ho.out hb4)
          obtain ⟨d4, -⟩ := hd.out w4 hB4.out
          have hC4 := Lib.hid (hC.out w4 hB4.out)
          obtain ⟨A4, c4, rfl, -⟩ := id hO4.rd
          clear hb4 d1
          replace hO4 := Lib.hid hO4
          go_wp2_with fail
          refine hC4.out.mono ?_
          rintro e w5 ⟨v5, rfl, ho5, hb5⟩
          have hB5 := Lib.hid (Below.next hB4.out hB4.out.size hb5)
          have hB5s := hB5.out.size
          have hoo5 := Lib.hid (own_below ho4.out hb5)
          have hR5 := hO4.out.rd.below hb5
          have hby := bytes_rd w5 (Rd.own ho5) hR5
          rw [decide_eq_true rfl] at hby
          replace hby := Lib.hid hby
          replace hR5 := Lib.hid hR5
          clear hb5 ho5
          go_wp2_with fail
          refine hby.out.mono ?_
          rintro e w6 ⟨rfl, rfl⟩
          go_wp2_with (at_builtin; go_loud (refine step_pushR (v := Value.slice Ao cs.length co) (n := cs.length) (m := cp.length) (xs := u8s cs) (news := u8s cp) (c := c4) (A := A4) (B := W0.heap.size) 30 5 (.int .u8 0) 1 1 _ _ rfl rfl Tryd.underlying30 infoU8 rfl (by decide) (by decide) rfl hoo5.out rfl hR5.out h1c.out (by omega) hB5s ?_); intro v7 w7 ho7 hg7 hat7; have hB7 := Lib.hid (hB5.out.trans (below_grown hoo5.out hg7 hB5s)); replace ho7 := Lib.hid ho7; clear hg7 hat7)
          go_roundw
          case rel => exact ⟨k + 1, by go_num, by omega, Lib.hid (by rw [hct.out, List.length_append, u8s_app]; exact ho7.out), hB7⟩
          case measure => simp only [intOf]; omega
        · obtain rfl : k = ps.length := by omega
          rw [List.take_length] at ho
          obtain ⟨Ao, co, rfl, -⟩ := Rd.own ho.out
          have hE : encE ps l = if (okL l && fitL l) = true then 0 else 34 := by unfold encE; rw [if_neg (by omega)]
          have hEB : (okL l && fitL l) = true → encB ps l = chks ps ++ lastB l := fun h => by unfold encB; rw [hE, h]; rfl
          have hll := fun h => lastB_le (l := l) h
          have hRL := rlast_any l (.slice Al l.length cl) wr (hR.out.below hB.out) hls.out (by omega)
          have hFl := fun w' (hb : Below W0.heap.size W0 w') => fields_any l (.slice Al l.length cl) w' (by omega) (hR.out.below hb)
          have hLa := fun w' v' (hr : Rd w' 2 v' l.length (prs l)) => last_any l v' w' hr hls.out hlm
          have hEn := fun w' v' (hb : Below W0.heap.size W0 w') (hr : Rd w' 2 v' l.length (prs l)) => encode_any ps l (.slice A ps.length cap) v' w' (hP.out.below hb) hn1 hps.out hr hls.out hlm ((hb.cell h5).trans hT.out)
          unfold RLastR at hRL
          unfold LastR at hLa
          unfold EncR at hEn
          obtain ⟨r, hr⟩ : ∃ r, (okL l && fitL l) = r := ⟨_, rfl⟩
          simp only [hr] at hRL hLa hE hll hEB
          simp only [hE] at hEn
          obtain ⟨cs, hcs⟩ : ∃ cs, chks ps = cs := ⟨_, rfl⟩
          rw [hcs] at ho hcle hEB ⊢
          replace hcs := Lib.hid hcs
          replace hr := Lib.hid hr
          replace hFl := Lib.hid hFl
          cases r with
          | true =>
            simp only [if_true, forall_const] at hLa hEn hRL
            have hEB0 : encB ps l = cs ++ lastB l := hEB rfl
            have hll2 := hll rfl
            have h1c := u8s_one (lastB l)
            simp only [hEB0] at hEn
            rw [errV_zero] at hEn
            simp only [errV_zero] at hLa
            clear hll hEB
            generalize hLb : lastB l = lb at *
            replace hLb := Lib.hid hLb
            replace hEB0 := Lib.hid hEB0
            replace h1c := Lib.hid h1c
            replace hE := Lib.hid hE
            replace hRL := Lib.hid hRL
            replace hLa := Lib.hid hLa
            replace hEn := Lib.hid hEn
            go_wp2_with fail
            refine hRL.out.mono ?_
            rintro e w4 ⟨v4, rfl, hO4, hb4⟩
            obtain ⟨A4, c4, rfl, -⟩ := id hO4.rd
            have hB4 := Lib.hid (Below.next hB.out hBs hb4)
            have hoo4 := Lib.hid (own_below ho.out hb4)
            have hR4 := hO4.rd
            clear hb4 hO4
            replace hR4 := Lib.hid hR4
            go_wp2_with fail
            refine (hFl.out w4 hB4.out).mono ?_
            rintro e w5 ⟨v5, rfl, ho5, hb5⟩
            have hB5 := Lib.hid (Below.next hB4.out hB4.out.size hb5)
            have hoo5 := Lib.hid (own_below hoo4.out hb5)
            have hR5 := Lib.hid (hR4.out.below hb5)
            have hL5 := Lib.hid (hLa.out w5 v5 (Rd.own ho5))
            clear hb5 ho5
            go_wp2_with fail
            refine hL5.out.mono ?_
            rintro e w6 ⟨v6, rfl, ho6, hb6⟩
            have hB6 := Lib.hid (Below.next hB5.out hB5.out.size hb6)
            have hoo6 := Lib.hid (own_below hoo5.out hb6)
            have hR6 := Lib.hid (hR5.out.below hb6)
            have hG6 := Lib.hid ho6.rd
            clear hb6 ho6
            go_wp2_with fail
            refine (hFl.out w6 hB6.out).mono ?_
            rintro e w7 ⟨v7, rfl, ho7, hb7⟩
            have hB7 := Lib.hid (Below.next hB6.out hB6.out.size hb7)
            have hoo7 := Lib.hid (own_below hoo6.out hb7)
            have hR7 := Lib.hid (hR6.out.below hb7)
            have hG7 := Lib.hid (hG6.out.below hb7)
            have hE7 := Lib.hid (hEn.out w7 v7 hB7.out (Rd.own ho7))
            clear hb7 ho7
            go_wp2_with fail
            refine hE7.out.mono ?_
            rintro e w8 ⟨v8, rfl, ho8, hb8⟩
            have hB8 := Lib.hid (Below.next hB7.out hB7.out.size hb8)
            have hB8s := hB8.out.size
            have hoo8 := Lib.hid (own_below hoo7.out hb8)
            have hR8 := Lib.hid (hR7.out.below hb8)
            have hG8 := Lib.hid (hG7.out.below hb8)
            have hby := bytes_rd w8 hG8.out hR8.out
            rw [decide_eq_true rfl] at hby
            replace hby := Lib.hid hby
            replace ho8 := Lib.hid ho8
            clear hb8
            go_wp2_with fail
            refine hby.out.mono ?_
            rintro e w9 ⟨rfl, rfl⟩
            go_wp2_with (at_builtin; go_loud (refine step_push8W (L := cs) (M := lb) (c := c4) (A := A4) (B := W0.heap.size) _ _ (by rfl) rfl rfl hoo8.out rfl hR8.out (by omega) hB8s ?_); intro v10 w10 ho10 hg10 hat10; have hB10 := Lib.hid (hB8.out.trans (below_grown hoo8.out hg10 hB8s)); clear hat10)
            have hk10 : Kp (fun j => (Value.slice Ao cs.length co).ownBlock = some j) w9 w10 := (Kp.refl _ w9).grown hg10 (fun k hk _ => hk)
            have ho8' := Own.kp ho8.out (fun j hj e => by have h1 := (World.ownsRow.lt ho8.out j hj).1; have h2 := (World.ownsRow.lt hoo7.out j e).2; omega) hk10
            have hb2 := bytes_rd w10 (Rd.own ho8') (Rd.own ho10)
            rw [decide_eq_true rfl] at hb2
            replace hb2 := Lib.hid hb2
            clear ho8' hk10 ho10 hg10
            refine hb2.out.mono ?_
            rintro e w11 ⟨rfl, rfl⟩
            go_wp2
            go_ret
            exact ⟨rfl, hB10.out⟩
          | false =>
            simp only [Bool.false_eq_true, if_false] at hLa hEn
            have hEB0 : encB ps l = [] := by unfold encB; rw [hE]; rfl
            simp only [hEB0] at hEn
            clear hll hEB
            replace hE := Lib.hid hE
            replace hRL := Lib.hid hRL
            replace hLa := Lib.hid hLa
            replace hEn := Lib.hid hEn
            go_wp2_with fail
            refine hRL.out.mono ?_
            rintro e w4 ⟨v4, rfl, -, hb4⟩
            have hB4 := Lib.hid (Below.next hB.out hBs hb4)
            clear hb4
            go_wp2_with fail
            refine (hFl.out w4 hB4.out).mono ?_
            rintro e w5 ⟨v5, rfl, ho5, hb5⟩
            have hB5 := Lib.hid (Below.next hB4.out hB4.out.size hb5)
            have hL5 := Lib.hid (hLa.out w5 v5 (Rd.own ho5))
            clear hb5 ho5
            go_wp2_with fail
            refine hL5.out.mono ?_
            rintro e w6 ⟨v6, rfl, ho6, hb6⟩
            have hB6 := Lib.hid (Below.next hB5.out hB5.out.size hb6)
            obtain ⟨A6, c6, rfl, -⟩ := id ho6.rd
            clear hb6 ho6
            go_wp2_with fail
            refine (hFl.out w6 hB6.out).mono ?_
            rintro e w7 ⟨v7, rfl, ho7, hb7⟩
            have hB7 := Lib.hid (Below.next hB6.out hB6.out.size hb7)
            have hE7 := Lib.hid (hEn.out w7 v7 hB7.out (Rd.own ho7))
            clear hb7 ho7
            go_wp2_with fail
            refine hE7.out.mono ?_
            rintro e w8 ⟨v8, rfl, ho8, hb8⟩
            have hB8 := Lib.hid (Below.next hB7.out hB7.out.size hb8)
            obtain ⟨A8, c8, rfl, -⟩ := Rd.own ho8
            clear hb8 ho8
            go_wp2_with fail
            refine (is_any 34 34 _).mono ?_
            rintro e w9 ⟨rfl, rfl⟩
            go_wp2_with fail
            refine (is_any 34 34 _).mono ?_
            rintro e w9 ⟨rfl, rfl⟩
            go_wp2
            go_ret
            exact ⟨rfl, hB8.out⟩
end Go.Proofs.YtbegpdhkjfdjbaaDoor
