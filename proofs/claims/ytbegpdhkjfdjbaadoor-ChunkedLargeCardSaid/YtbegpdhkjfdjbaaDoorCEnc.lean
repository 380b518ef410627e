/-
  Layer 7: Encode.
-/
import Derived.Test.YtbegpdhkjfdjbaaDoorCLast
import Derived.Test.YtbegpdhkjfdjbaaDoorCChunk
namespace Go.Proofs.YtbegpdhkjfdjbaaDoor
open Go.RowKit Syn Ck

namespace Ck
def chks (ps : List (List UInt8)) : List UInt8 := ps.flatMap chk
def encE (ps : List (List UInt8)) (l : List (List UInt8 × List UInt8)) : Int := if 65536 < ps.flatten.length then 5 else if (okL l && fitL l) = true then 0 else 34
def encB (ps : List (List UInt8)) (l : List (List UInt8 × List UInt8)) : List UInt8 := if encE ps l = 0 then chks ps ++ lastB l else []
theorem chks_take {ps : List (List UInt8)} {k : Nat} (h : k < ps.length) : chks (ps.take (k + 1)) = chks (ps.take k) ++ chk ps[k] := by
  unfold chks; rw [List.take_succ_eq_append_getElem h, List.flatMap_append]; simp
theorem chk_le (b : List UInt8) (h : b.length ≤ 1000000) : (chk b).length ≤ b.length + 20 := by
  unfold chk
  split
  · simp
  · have := hexs_len 15 b.length (by omega)
    simp only [List.length_append, List.length_cons, List.length_nil]
    omega
theorem chks_le : ∀ (ps : List (List UInt8)), (∀ p ∈ ps, p.length ≤ 1000000) → (chks ps).length ≤ ps.flatten.length + ps.length * 20
  | [], _ => by simp [chks]
  | p :: r, h => by
    have h1 := chk_le p (h p (by simp))
    have h2 := chks_le r (fun q hq => h q (by simp [hq]))
    have e : chks (p :: r) = chk p ++ chks r := rfl
    rw [e, List.length_append, List.flatten_cons, List.length_append, List.length_cons, Nat.add_mul]
    omega
theorem flat_at (ps : List (List UInt8)) {k : Nat} (h : k < ps.length) : (ps.take k).flatten.length + ps[k].length ≤ ps.flatten.length := by
  have := flat_take_le ps (k + 1)
  rw [flat_take h, List.length_append] at this
  exact this
theorem lastB_le {l : List (List UInt8 × List UInt8)} (h : (okL l && fitL l) = true) : (lastB l).length ≤ 9000 := by
  unfold fitL at h
  simp only [Bool.and_eq_true, decide_eq_true_eq] at h
  unfold lastB
  simp only [List.length_append, List.length_cons, List.length_nil]
  omega
/-- What Encode leaves. -/
def EncR (w : World) (ps : List (List UInt8)) (l : List (List UInt8 × List UInt8)) (e : Ending) (w' : World) : Prop :=
  ∃ o, e = .returned (.tuple #[o, errV (encE ps l)]) ∧ Own w' w.heap.size 5 1 o (encB ps l).length (u8s (encB ps l)) ∧ Below w.heap.size w w'
theorem EncR.bad {w w' : World} {ps : List (List UInt8)} {l : List (List UInt8 × List UInt8)} {n : Int} (h : encE ps l = n) (h0 : n ≠ 0) (hb : Below w.heap.size w w') : EncR w ps l (.returned (.tuple #[.slice none 0 0, .iface 46 (.int .i64 n)])) w' :=
  ⟨.slice none 0 0, by rw [h, errV_ne h0], by unfold encB; rw [h, if_neg h0]; exact own_nil _ _ _ _, hb⟩
theorem EncR.good {w w' : World} {ps : List (List UInt8)} {l : List (List UInt8 × List UInt8)} {o : Value} (h : encE ps l = 0) (ho : Own w' w.heap.size 5 1 o (chks ps ++ lastB l).length (u8s (chks ps ++ lastB l))) (hb : Below w.heap.size w w') : EncR w ps l (.returned (.tuple #[o, .nilIface])) w' :=
  ⟨o, by rw [h]; rfl, by unfold encB; rw [if_pos h]; exact ho, hb⟩
end Ck
set_option maxRecDepth 100000 in
set_option maxHeartbeats 16000000 in
theorem encode_any (ps : List (List UInt8)) (l : List (List UInt8 × List UInt8)) (v vl : Value) (w : World) (hP : Parts w v ps) (hn : ps.length ≤ 100) (hp : ∀ p ∈ ps, p.length ≤ 1000000)
    (hR : Rd w 2 vl l.length (prs l)) (hs : ∀ p ∈ l, p.1.length ≤ 100000 ∧ p.2.length ≤ 100000) (hm : l.length ≤ 140737488355328) (hT : w.cell? ⟨5, 15, none⟩ = some (.int .u8 4)) :
    Calls Tryd.prog 29 #[v, vl] w (EncR w ps l) := by
  obtain ⟨A, cap, rfl, hcap, -⟩ := id hP
  obtain ⟨Al, cl, rfl, hcl, -⟩ := id hR
  have h5 := cell_lt hT
  replace hP := Lib.hid hP
  replace hR := Lib.hid hR
  replace hs := Lib.hid hs
  replace hp := Lib.hid hp
  replace hT := Lib.hid hT
  go_enter Tryd.func29, Tryd.ntmps29
  go_wp2
  go_loopw [6, 7, 14] (fun o n i wr => ∃ k : Nat, i = .int .i64 (k : Int) ∧ k ≤ ps.length ∧ n = .int .i64 ((ps.take k).flatten.length : Int) ∧ (ps.take k).flatten.length ≤ 65536 ∧ Hid (Own wr w.heap.size 5 1 o (chks (ps.take k)).length (u8s (chks (ps.take k)))) ∧ Hid (Below w.heap.size w wr)) (fun _ _ i _ => ps.length - (intOf i).toNat)
  case atStart => exact ⟨0, rfl, by omega, rfl, by simp, Lib.hid (own_nil _ _ _ _), Lib.hid (Below.refl _ _)⟩
  case round =>
    obtain ⟨k, rfl, hk, rfl, h65, ho, hB⟩ := hrel
    have hBs := hB.out.size
    by_cases hlt : k < ps.length
    · obtain ⟨A', c', e', -, r'⟩ := hP.out.below hB.out
      cases e'
      obtain ⟨b, o, rfl, hbl, hx⟩ := r' (by omega)
      obtain ⟨Ai, ci, d1, hRk⟩ := hx k hlt
      have hpl := hp.out ps[k] (List.getElem_mem hlt)
      have hfa := flat_at ps hlt
      have hft := congrArg List.length (flat_take hlt)
      have hct := chks_take hlt
      have hcle := chks_le (ps.take k) (fun p h => hp.out p (List.mem_of_mem_take h))
      rw [List.length_take, Nat.min_eq_left hk] at hcle
      have hck := chk_le ps[k] hpl
      have hC := chunk_any ps[k] Ai ci wr hRk (by omega) ((hB.out.cell h5).trans hT.out)
      rw [List.length_append] at hft
      obtain ⟨Ao, co, rfl, -⟩ := Rd.own ho.out
      generalize ps[k] = p at *
      obtain ⟨nf, hnf⟩ : ∃ n, (ps.take k).flatten.length = n := ⟨_, rfl⟩
      rw [hnf] at hft hfa h65 hcle ⊢
      obtain ⟨cs, hcs⟩ : ∃ cs, chks (ps.take k) = cs := ⟨_, rfl⟩
      rw [hcs] at ho hct hcle ⊢
      replace hct := Lib.hid hct
      replace hcs := Lib.hid hcs
      replace hnf := Lib.hid hnf
      have h1c := Lib.hid (u8s_one (chk p))
      clear hx r'
      replace hRk := Lib.hid hRk
      replace hC := Lib.hid hC
      by_cases hbig : 65536 < nf + p.length
      · have he := Lib.hid (show encE ps l = 5 by unfold encE; rw [if_pos (by omega)])
        replace hft := Lib.hid hft
        go_wp2
        go_ret2
        exact EncR.bad he.out (by decide) hB.out
      · replace hft := Lib.hid hft
        go_wp2_with fail
        refine hC.out.mono ?_
        rintro e w3 ⟨v3, rfl, ho3, hb3⟩
        obtain ⟨A3, c3, rfl, -⟩ := Rd.own ho3
        have hB3 := Lib.hid (Below.next hB.out hBs hb3)
        have hB3s := hB3.out.size
        have ho2 := Lib.hid (own_below ho.out hb3)
        have hR3 := Lib.hid (Rd.own ho3)
        clear hb3 ho3
        go_wp2_with (at_builtin; go_loud (refine step_pushR (v := Value.slice Ao cs.length co) (n := cs.length) (m := (chk p).length) (xs := u8s cs) (news := u8s (chk p)) (c := c3) (A := A3) (B := w.heap.size) 30 5 (.int .u8 0) 1 1 _ _ rfl rfl Tryd.underlying30 infoU8 rfl (by decide) (by decide) rfl ho2.out rfl hR3.out h1c.out (by omega) hB3s ?_); intro v5 w5 ho5 hg5 hat5; have hB5 := Lib.hid (hB3.out.trans (below_grown ho2.out hg5 hB3s)); replace ho5 := Lib.hid ho5; clear hg5 hat5)
        go_roundw
        case rel => exact ⟨k + 1, by go_num, by omega, by rw [hft.out]; go_num, by rw [hft.out]; omega, Lib.hid (by rw [hct.out, List.length_append, u8s_app]; exact ho5.out), hB5⟩
        case measure => simp only [intOf]; omega
    · obtain rfl : k = ps.length := by omega
      rw [List.take_length] at ho h65 ⊢
      have hcle := chks_le ps (fun p h => hp.out p h)
      obtain ⟨Ao, co, rfl, -⟩ := Rd.own ho.out
      obtain ⟨cs, hcs⟩ : ∃ cs, chks ps = cs := ⟨_, rfl⟩
      obtain ⟨nf, hnf⟩ : ∃ n, ps.flatten.length = n := ⟨_, rfl⟩
      have hE : encE ps l = if (okL l && fitL l) = true then 0 else 34 := by unfold encE; rw [if_neg (by omega)]
      rw [hcs] at ho hcle ⊢
      rw [hnf] at h65 hcle ⊢
      have hL := last_any l (.slice Al l.length cl) wr (hR.out.below hB.out) hs.out hm
      unfold LastR at hL
      have hll := fun h => lastB_le (l := l) h
      replace hcs := Lib.hid hcs
      replace hnf := Lib.hid hnf
      obtain ⟨r, hr⟩ : ∃ r, (okL l && fitL l) = r := ⟨_, rfl⟩
      rw [hr] at hL hE hll
      cases r with
      | true =>
        have hll2 := hll rfl
        simp only [if_true] at hL hE
        rw [errV_zero] at hL
        replace hE := Lib.hid hE
        replace hL := Lib.hid hL
        replace hr := Lib.hid hr
        clear hll
        have h1c := Lib.hid (u8s_one (lastB l))
        generalize hLb : lastB l = lb at *
        replace hLb := Lib.hid hLb
        go_wp2_with fail
        refine hL.out.mono ?_
        rintro e w3 ⟨v3, rfl, ho3, hb3⟩
        obtain ⟨A3, c3, rfl, -⟩ := id ho3.rd
        have hB3 := Lib.hid (Below.next hB.out hBs hb3)
        have hB3s := hB3.out.size
        have ho2 := Lib.hid (own_below ho.out hb3)
        have hR3 := Lib.hid ho3.rd
        clear hb3 ho3
        go_wp2_with (at_builtin; go_loud (refine step_pushR (v := Value.slice Ao cs.length co) (n := cs.length) (m := lb.length) (xs := u8s cs) (news := u8s lb) (c := c3) (A := A3) (B := w.heap.size) 30 5 (.int .u8 0) 1 1 _ _ rfl rfl Tryd.underlying30 infoU8 rfl (by decide) (by decide) rfl ho2.out rfl hR3.out h1c.out (by omega) hB3s ?_); intro v5 w5 ho5 hg5 hat5; have hB5 := Lib.hid (hB3.out.trans (below_grown ho2.out hg5 hB3s)); replace ho5 := Lib.hid ho5; clear hg5 hat5)
        go_ret2
        exact EncR.good hE.out (by rw [hcs.out, hLb.out, List.length_append, u8s_app]; exact ho5.out) hB5.out
      | false =>
        simp only [Bool.false_eq_true, if_false] at hL hE
        rw [errV_ne (by decide)] at hL
        replace hE := Lib.hid hE
        replace hL := Lib.hid hL
        replace hr := Lib.hid hr
        clear hll
        go_wp2_with fail
        refine hL.out.mono ?_
        rintro e w3 ⟨v3, rfl, ho3, hb3⟩
        have hB3 := Lib.hid (Below.next hB.out hBs hb3)
        clear hb3 ho3
        go_wp2
        go_ret2
        exact EncR.bad hE.out (by decide) hB3.out
end Go.Proofs.YtbegpdhkjfdjbaaDoor
