/-
  Layer 8: Ref of the statements: events turned into the document's.
-/
import Derived.Test.YtjffffpfejmoiaaGreatDoorDMem
import Derived.Test.YtjffffpfejmoiaaGreatDoorNFewP
import Derived.Test.YtjffffpfejmoiaaGreatDoorNConst
import Derived.Deep.RegionHeld3
import Derived.Deep.AppendLies
namespace Go.Proofs.YtjffffpfejmoiaaGreatDoor
open Go.RowKit Syn Hd Fr Ck
set_option maxRecDepth 100000 in
set_option maxHeartbeats 4000000 in
theorem refs_big (L : List (List UInt8 × List UInt8)) (v : Value) (w : World) (hl : L.length ≤ 1000) (hR : Rd w 2 v L.length (prs L)) :
    Calls Tryz.prog 44 #[v] w fun e w' => ∃ o, e = .returned o ∧ Own w' w.heap.size 129 2 o L.length (prs L) ∧ Below w.heap.size w w' := by
  obtain ⟨A, cap, rfl, hcap, -, -⟩ := id hR
  replace hR := Lib.hid hR
  go_enter Tryz.func44, Tryz.ntmps44
  go_wp2
  go_loopw [3, 8] (fun o i wr => ∃ k : Nat, i = .int .i64 (k : Int) ∧ k ≤ L.length ∧ Hid (Own wr w.heap.size 129 2 o k (prs (L.take k))) ∧ Hid (Below w.heap.size w wr)) (fun _ i _ => L.length - (intOf i).toNat)
  case atStart => exact ⟨0, rfl, by omega, own_nil _ _ _ _, Below.refl _ _⟩
  case round =>
    obtain ⟨k, rfl, hk, ho, hB⟩ := hrel
    have hBw := hB.out.size
    by_cases hlt : k < L.length
    · obtain ⟨A', cap', e', -, -, r'⟩ := hR.out.below hB.out
      cases e'
      obtain ⟨b1, o1, rfl, _, x1⟩ := r' (by omega)
      have d1 : wr.cell? ⟨b1, o1 + k * 2, none⟩ = some (.string (str L[k].1)) := x1 _ _ (prs_at0 hlt)
      have d2 : wr.cell? ⟨b1, o1 + k * 2 + 1, none⟩ = some (.string (str L[k].2)) := x1 _ _ (prs_at1 hlt)
      have htk := Lib.hid (List.take_succ_eq_append_getElem hlt)
      clear x1 r'
      generalize L[k] = p at *
      obtain ⟨n, vv⟩ := p
      simp only at d1 d2
      go_wp2_with (at_builtin; refine push_pair 95 129 Tryz.underlying95 infoR2b _ _ rfl rfl rfl (own_below ho.out ((Below.refl _ _).alloc (Nat.le_refl _) _)) (by rw [alloc_size']; rfl) rfl rfl (by omega) (by rw [alloc_size']; omega) ?_; intro v7 w7 ho7 hb7; replace ho7 := Lib.hid ho7; have hB7 := Lib.hid ((hB.out.alloc hBw _).trans hb7); clear hb7)
      go_wp2
      go_roundw
      case rel => exact ⟨k + 1, by go_num, by omega, Lib.hid (by rw [htk.out, prs_snoc]; exact ho7.out), hB7⟩
      case measure => simp [intOf]; omega
    · obtain rfl : k = L.length := by omega
      rw [List.take_length] at ho
      go_wp2
      go_ret
      exact ⟨_, rfl, ho.out, hB.out⟩
theorem infoDv : (Tryz.prog.info? 101).map (fun i => (i.zero, i.size, i.bytes)) = some (some (.agg #[.int .i64 0, .string ⟨#[]⟩, .string ⟨#[]⟩, .slice none 0 0, .int .i64 0, .slice none 0 0, .string ⟨#[]⟩, .slice none 0 0]), 8, 136) := by kernel_rfl
/-- append of one event of the document's. -/
theorem push_dv {ops : Array Oper} {rest : List Oper} {o : Oper} {a : Act} {Q : Exit → Act → World → Prop} {w : World} (s x : Operand)
    (hgd : o.guard = none) (ho : o.op = .call { callee := .builtin .append, args := #[s, x], argTypes := #[59, 59] })
    {B n : Nat} {v u0 u1 u2 u3 u4 u5 u6 u7 : Value} {xs : List Value} (hs : a.eval s = v) (hown : Own w B 101 8 v n xs) (hx : a.eval x = .slice (some ⟨w.heap.size, 0, none⟩) 1 1)
    (h1 : ∀ u ∈ [u0, u1, u2, u3, u4, u5, u6, u7], u.oneCell' = true) (hn : n < 10000000) (hB : B ≤ w.heap.size)
    (h : ∀ v' w', Own w' B 101 8 v' (n + 1) (xs ++ [u0, u1, u2, u3, u4, u5, u6, u7]) → (w.alloc (.cells #[u0, u1, u2, u3, u4, u5, u6, u7] 101)).grownBy w' v.ownBlock → (v'.ownBlock = v.ownBlock ∨ v'.ownBlock = some (w.heap.size + 1)) → wpList Tryz.prog ops Q rest (a.put o.dst v') w') :
    wpList Tryz.prog ops Q (o :: rest) a (w.alloc (.cells #[u0, u1, u2, u3, u4, u5, u6, u7] 101)) := by
  refine step_pushR 59 101 _ 8 136 s x hgd ho Tryz.underlying59 infoDv rfl (by decide) (by decide) hs (hown.alloc _) hx (rd_one8 w _ u0 u1 u2 u3 u4 u5 u6 u7) h1 (by omega) (by rw [alloc_size']; omega) ?_
  intro v' w' ho' hg hat
  exact h v' w' ho' hg (by rwa [alloc_size'] at hat)
/-- append of one event of the document's, at a step of a region that draws its order. -/
theorem stepD_push {ops : Array Oper} {o : Oper} {a : Act} {K : Act → World → Prop} {Q : Exit → Act → World → Prop} {E : Prop} {w : World} (s x : Operand)
    (hgd : o.guard = none) (ho : o.op = .call { callee := .builtin .append, args := #[s, x], argTypes := #[59, 59] })
    {B n g : Nat} {v u0 u1 u2 u3 u4 u5 u6 u7 : Value} {xs : List Value} (hs : a.eval s = v) (hown : Own w B 101 8 v n xs) (hx : a.eval x = .slice (some ⟨g, 0, none⟩) 1 1)
    (hb : Blk w g 101 #[u0, u1, u2, u3, u4, u5, u6, u7])
    (h1 : ∀ u ∈ [u0, u1, u2, u3, u4, u5, u6, u7], u.oneCell' = true) (hn : n ≤ 10000000) (hB : B ≤ w.heap.size)
    (h : ∀ v' w', Own w' B 101 8 v' (n + 1) (xs ++ [u0, u1, u2, u3, u4, u5, u6, u7]) → w.grownBy w' v.ownBlock → (v'.ownBlock = v.ownBlock ∨ v'.ownBlock = some w.heap.size) → K (a.put o.dst v') w') :
    if Region.wanted o (yielded ops a.tmps) = true then Oper.wp Tryz.prog o a w K Q else E := by
  obtain ⟨i0, hi0, hz0, hz1, hz2⟩ := info_parts infoDv
  refine step_append_lies w hgd s x _ ho B _ i0 _ 8 136 Tryz.underlying59 hi0 hz0 hz1 hz2 rfl (by omega) v n xs hs hown ⟨g, 0, none⟩ 1 1 [u0, u1, u2, u3, u4, u5, u6, u7] hx rfl (World.news_of_block (cs := #[u0, u1, u2, u3, u4, u5, u6, u7]) (t := 101) (fr := (0, 0)) hb) h1 (by omega) (by have : maxLen = 9223372036854775807 := rfl; omega) (by omega) hB w.heap.size rfl ?_
  intro gg cap w' ho' hg hat _
  exact h _ w' ho' hg (hat.elim (fun e => .inl (by rw [e]; rfl)) (fun e => .inr (by rw [e]; rfl)))
set_option maxRecDepth 100000 in
set_option maxHeartbeats 8000000 in
theorem ref_any {l : List Cn.Ev} {P : Nat → Prop} {xs : List Value} (v : Value) (w : World) (hE : Cn.EvsC w P l xs) (hR : Rd w 8 v l.length xs) (hf : ∀ e ∈ l, Cn.EvF e) (hn : l.length ≤ 1000000) :
    Calls Tryz.prog 22 #[v] w fun e w' => ∃ o ys, e = .returned o ∧ Own w' w.heap.size 101 8 o l.length ys ∧ Cn.DvsC w' (fun b => w.heap.size ≤ b ∧ b < w'.heap.size ∧ o.ownBlock ≠ some b) l ys ∧ Below w.heap.size w w' := by
  obtain ⟨A, cap, rfl, hcap, -, -⟩ := id hR
  replace hR := Lib.hid hR
  replace hE := Lib.hid hE
  replace hf := Lib.hid hf
  go_enter Tryz.func22, Tryz.ntmps22
  go_wp2
  go_loopw [3, 4] (fun o i wr => ∃ (k : Nat) (ys : List Value), i = .int .i64 (k : Int) ∧ k ≤ l.length ∧ Hid (Own wr w.heap.size 101 8 o k ys) ∧ Hid (Cn.DvsC wr (fun b => w.heap.size ≤ b ∧ b < wr.heap.size ∧ o.ownBlock ≠ some b) (l.take k) ys) ∧ Hid (Below w.heap.size w wr)) (fun _ i _ => l.length - (intOf i).toNat)
  case atStart => exact ⟨0, [], rfl, by omega, own_nil _ _ _ _, .nil, Below.refl _ _⟩
  case round =>
    obtain ⟨k, ys, rfl, hk, ho, hD, hB⟩ := hrel
    have hBw := hB.out.size
    by_cases hlt : k < l.length
    · obtain ⟨zs, hz, hx⟩ := hE.out.at_ hlt
      have hfe := hf.out _ (List.getElem_mem hlt)
      have htk := Lib.hid (List.take_succ_eq_append_getElem hlt)
      generalize l[k] = ev at *
      obtain ⟨vr, vs, vd, vt, rfl, r1, -, r2, -, r3, -, r4, -⟩ := hz
      obtain ⟨A', cap', e', -, -, r'⟩ := hR.out.below hB.out
      cases e'
      obtain ⟨b1, o1, rfl, _, x1⟩ := r' (by omega)
      have d0 : wr.cell? ⟨b1, o1 + k * 8, none⟩ = some (.int .i64 (ev.kind : Int)) := x1 _ _ ((hx 0 (by decide)).trans rfl)
      have d1 : wr.cell? ⟨b1, o1 + k * 8 + 1, none⟩ = some (.string (str ev.m)) := x1 _ _ ((hx 1 (by decide)).trans rfl)
      have d2 : wr.cell? ⟨b1, o1 + k * 8 + 2, none⟩ = some (.string (str ev.t)) := x1 _ _ ((hx 2 (by decide)).trans rfl)
      have d3 : wr.cell? ⟨b1, o1 + k * 8 + 3, none⟩ = some vr := x1 _ _ ((hx 3 (by decide)).trans rfl)
      have d4 : wr.cell? ⟨b1, o1 + k * 8 + 4, none⟩ = some (.int .i64 ev.st) := x1 _ _ ((hx 4 (by decide)).trans rfl)
      have d5 : wr.cell? ⟨b1, o1 + k * 8 + 5, none⟩ = some vs := x1 _ _ ((hx 5 (by decide)).trans rfl)
      have d6 : wr.cell? ⟨b1, o1 + k * 8 + 6, none⟩ = some vd := x1 _ _ ((hx 6 (by decide)).trans rfl)
      have d7 : wr.cell? ⟨b1, o1 + k * 8 + 7, none⟩ = some vt := x1 _ _ ((hx 7 (by decide)).trans rfl)
      clear x1 r' hx
      obtain ⟨Ar, cr, rfl, -, -, -⟩ := id r1
      obtain ⟨As, cs, rfl, -, -, -⟩ := id r2
      obtain ⟨Ad, cd, rfl, -, -, -⟩ := id r3
      obtain ⟨At, ct, rfl, -, -, -⟩ := id r4
      generalize hnr : ev.rf.length = nr at r1 r2 r3 r4 d3 d5 d6 d7
      generalize hns : ev.sf.length = ns at r1 r2 r3 r4 d3 d5 d6 d7
      generalize hnd : ev.data.length = nd at r1 r2 r3 r4 d3 d5 d6 d7
      generalize hnt : ev.tr.length = nt at r1 r2 r3 r4 d3 d5 d6 d7
      replace r1 := Lib.hid r1
      replace r2 := Lib.hid r2
      replace r3 := Lib.hid r3
      replace r4 := Lib.hid r4
      replace hfe := Lib.hid hfe
      go_wp2_with fail
      have hX := Blk.new wr 77 #[.int .i64 (ev.kind : Int), .string (str ev.m), .string (str ev.t), .slice Ar nr cr, .int .i64 ev.st, .slice As ns cs, .slice Ad nd cd, .slice At nt ct]
      have hBr2 := (Below.refl wr.heap.size wr).alloc (Nat.le_refl _) (.cells #[.int .i64 (ev.kind : Int), .string (str ev.m), .string (str ev.t), .slice Ar nr cr, .int .i64 ev.st, .slice As ns cs, .slice Ad nd cd, .slice At nt ct] 77)
      obtain ⟨G, hG⟩ : ∃ G, wr.heap.size = G := ⟨_, rfl⟩
      rw [hG] at hX ⊢
      generalize wr.alloc (.cells #[.int .i64 (ev.kind : Int), .string (str ev.m), .string (str ev.t), .slice Ar nr cr, .int .i64 ev.st, .slice As ns cs, .slice Ad nd cd, .slice At nt ct] 77) = w2 at *
      have hGl : G < w2.heap.size := hX.lt
      have hBw2 := Lib.hid (show w.heap.size ≤ w2.heap.size by have := hBr2.size; omega)
      have hBww := Lib.hid (hB.out.trans (hBr2.mono hBw))
      have hneG := Lib.hid (show u3.ownBlock ≠ some G from fun e => by have := (World.ownsRow.lt ho.out G e).2; omega)
      have hS2 : ∀ w', Blk w' G 77 #[.int .i64 (ev.kind : Int), .string (str ev.m), .string (str ev.t), .slice Ar nr cr, .int .i64 ev.st, .slice As ns cs, .slice Ad nd cd, .slice At nt ct] → Rd w' 1 (.slice Ad nd cd) nd (u8s ev.data) → w'.cell? ⟨G, 0, none⟩ = some (.int .i64 (ev.kind : Int)) ∧ w'.cell? ⟨G, 1, none⟩ = some (.string (str ev.m)) ∧ w'.cell? ⟨G, 2, none⟩ = some (.string (str ev.t)) ∧ w'.cell? ⟨G, 3, none⟩ = some (.slice Ar nr cr) ∧ w'.cell? ⟨G, 4, none⟩ = some (.int .i64 ev.st) ∧ w'.cell? ⟨G, 5, none⟩ = some (.slice As ns cs) ∧ w'.cell? ⟨G, 6, none⟩ = some (.slice Ad nd cd) ∧ w'.cell? ⟨G, 7, none⟩ = some (.slice At nt ct) ∧ Sem.run Tryz.prog (convert 23 9 (.slice Ad nd cd)) w' = .ok (.string (str ev.data)) w' := fun w' hY h3 =>
        ⟨hY.cell 0, hY.cell 1, hY.cell 2, hY.cell 3, hY.cell 4, hY.cell 5, hY.cell 6, hY.cell 7, conv_all (l := ev.data) (by rw [hnd]; exact h3)⟩
      have hXd := Lib.hid (fun w' (hb : Below w2.heap.size w2 w') => hX.below hb)
      have h3d := Lib.hid (fun w' (hb : Below w2.heap.size w2 w') => r3.out.below (hBww.out.trans (hb.mono hBw2.out)))
      have hS : ∀ w', Below w2.heap.size w2 w' → w'.cell? ⟨G, 0, none⟩ = some (.int .i64 (ev.kind : Int)) ∧ w'.cell? ⟨G, 1, none⟩ = some (.string (str ev.m)) ∧ w'.cell? ⟨G, 2, none⟩ = some (.string (str ev.t)) ∧ w'.cell? ⟨G, 3, none⟩ = some (.slice Ar nr cr) ∧ w'.cell? ⟨G, 4, none⟩ = some (.int .i64 ev.st) ∧ w'.cell? ⟨G, 5, none⟩ = some (.slice As ns cs) ∧ w'.cell? ⟨G, 6, none⟩ = some (.slice Ad nd cd) ∧ w'.cell? ⟨G, 7, none⟩ = some (.slice At nt ct) ∧ Sem.run Tryz.prog (convert 23 9 (.slice Ad nd cd)) w' = .ok (.string (str ev.data)) w' := fun w' hb => hS2 w' (hXd.out w' hb) (h3d.out w' hb)
      clear d0 d1 d2 d3 d4 d5 d6 d7
      have hfT := Lib.hid (fun w' (hb : Below w2.heap.size w2 w') => refs_big ev.tr (.slice At nt ct) w' hfe.out.tr (by rw [hnt]; exact r4.out.below (hBww.out.trans (hb.mono hBw2.out))))
      have hfR := Lib.hid (fun w' (hb : Below w2.heap.size w2 w') => refs_big ev.rf (.slice Ar nr cr) w' hfe.out.rf (by rw [hnr]; exact r1.out.below (hBww.out.trans (hb.mono hBw2.out))))
      have hfS := Lib.hid (fun w' (hb : Below w2.heap.size w2 w') => refs_big ev.sf (.slice As ns cs) w' hfe.out.sf (by rw [hns]; exact r2.out.below (hBww.out.trans (hb.mono hBw2.out))))
      replace hS := Lib.hid hS
      replace hS2 := Lib.hid hS2
      obtain ⟨m0, m1, m2, m3, m4, m5, m6, m7, mc⟩ := hS.out w2 (Below.refl _ _)
      clear r1 r2 r4 hX
      replace hBr2 := Lib.hid hBr2
      have hB2 := Lib.hid (Below.refl w2.heap.size w2)
      have hoD := Lib.hid (fun w' (hb : Below w2.heap.size w2 w') => own_below (own_below ho.out hBr2.out) hb)
      go_region_held3 (fun w' => w'.cell? ⟨G, 0, none⟩ = some (.int .i64 (ev.kind : Int)) ∧ w'.cell? ⟨G, 1, none⟩ = some (.string (str ev.m)) ∧ w'.cell? ⟨G, 2, none⟩ = some (.string (str ev.t)) ∧ w'.cell? ⟨G, 3, none⟩ = some (.slice Ar nr cr) ∧ w'.cell? ⟨G, 4, none⟩ = some (.int .i64 ev.st) ∧ w'.cell? ⟨G, 5, none⟩ = some (.slice As ns cs) ∧ w'.cell? ⟨G, 6, none⟩ = some (.slice Ad nd cd) ∧ w'.cell? ⟨G, 7, none⟩ = some (.slice At nt ct) ∧ Sem.run Tryz.prog (convert 23 9 (.slice Ad nd cd)) w' = .ok (.string (str ev.data)) w')
        (first | exact hS9 | exact hS.out _ (by first | with_reducible exact Below.refl _ _ | with_reducible exact (Below.refl _ _).drew | with_reducible exact hBS.out | with_reducible exact hBS.out.alloc hBS.out.size _ | with_reducible exact hBR.out | with_reducible exact hBT.out))
        (first
          | (go_at_call 44; (first | with_reducible refine Calls.mono (hfT.out w2 hB2.out) ?_ | with_reducible refine Calls.mono (hfT.out w2.drew hB2.out.drew) ?_); rintro e wT ⟨oT, rfl, hoT, hbT⟩; have hqT : Below w2.heap.size w2 wT := (by first | exact hbT | exact below_of_drew hbT); have hBT := Lib.hid (hB2.out.trans (hqT.mono hB2.out.size)); replace hoT : Own wT w2.heap.size 129 2 oT nt (prs ev.tr) := (by rw [← hnt]; exact hoT); obtain ⟨AT, cT, rfl, -, -, -⟩ := Rd.own hoT; replace hoT := Lib.hid hoT; clear hbT hqT)
          | (go_at_call 44; (first | with_reducible refine Calls.mono (hfR.out wT hBT.out) ?_ | with_reducible refine Calls.mono (hfR.out wT.drew hBT.out.drew) ?_); rintro e wR ⟨oR, rfl, hoR, hbR⟩; have hqR : Below wT.heap.size wT wR := (by first | exact hbR | exact below_of_drew hbR); have hBR := Lib.hid (hBT.out.trans (hqR.mono hBT.out.size)); replace hoR : Own wR wT.heap.size 129 2 oR nr (prs ev.rf) := (by rw [← hnr]; exact hoR); replace hoT := Lib.hid (own_below hoT.out hqR); obtain ⟨AR, cR, rfl, -, -, -⟩ := Rd.own hoR; replace hoR := Lib.hid hoR; clear hbR hqR)
          | (go_at_call 44; (first | with_reducible refine Calls.mono (hfS.out wR hBR.out) ?_ | with_reducible refine Calls.mono (hfS.out wR.drew hBR.out.drew) ?_); rintro e wS ⟨oS, rfl, hoS, hbS⟩; have hqS : Below wR.heap.size wR wS := (by first | exact hbS | exact below_of_drew hbS); have hBS := Lib.hid (hBR.out.trans (hqS.mono hBR.out.size)); replace hoS : Own wS wR.heap.size 129 2 oS ns (prs ev.sf) := (by rw [← hns]; exact hoS); replace hoT := Lib.hid (own_below hoT.out hqS); replace hoR := Lib.hid (own_below hoR.out hqS); obtain ⟨AS, cS, rfl, -, -, -⟩ := Rd.own hoS; replace hoS := Lib.hid hoS; clear hbS hqS)
          | (refine stepD_push (n := k) (g := wS.heap.size) (xs := ys) (v := _) (B := w.heap.size) _ _ (by rfl) (by rfl) (by rfl) (by first | exact (hoD.out wS hBS.out).alloc _ | exact ((hoD.out wS hBS.out).alloc _).drew) (by rfl) (by first | exact Blk.new wS _ _ | exact (Blk.new wS _ _).drew) (by intro u hu; simp only [List.mem_cons, List.mem_nil_iff, or_false] at hu; rcases hu with rfl | rfl | rfl | rfl | rfl | rfl | rfl | rfl <;> rfl) (by omega) (by have h1 := hBS.out.size; have h2 := hBw2.out; simp; omega) ?_; intro v9 w9 ho9 hg9 hat9; have hBwS := hBww.out.trans (hBS.out.mono hBw2.out); have hP9 := Below.trans (by first | exact hBwS.alloc hBwS.size _ | exact (hBwS.alloc hBwS.size _).drew) (below_grown (by first | exact (hoD.out wS hBS.out).alloc _ | exact ((hoD.out wS hBS.out).alloc _).drew) hg9 (by have h1 := hBS.out.size; have h2 := hBw2.out; simp; omega)); have hY9 := Blk.grown8 (by first | exact (hXd.out wS hBS.out).alloc _ | exact ((hXd.out wS hBS.out).alloc _).drew) hg9 hneG.out; have hS9 := hS2.out w9 hY9 (r3.out.below hP9); clear hY9))
      clear m0 m1 m2 m3 m4 m5 m6 m7 mc hS9
      have hzr : wr.heap.size ≤ w2.heap.size := hBr2.out.size
      have hzS : w2.heap.size ≤ wS.heap.size := hBS.out.size
      have hz9 : wS.heap.size + 1 ≤ w9.heap.size := by have h := hg9.size; simpa using h
      have hBrS := (Kp.refl (fun b => u3.ownBlock = some b) wr).below (hBr2.out.trans (hBS.out.mono hzr))
      have hK9 : Kp (fun b => u3.ownBlock = some b) wr w9 := Kp.grown (by first | exact hBrS.alloc _ | exact (hBrS.alloc _).drew) hg9 (fun k e _ => e)
      have hat : v9.ownBlock = u3.ownBlock ∨ v9.ownBlock = some (wS.heap.size + 1) := hat9.imp id (fun e => e.trans (congrArg some (by simp)))
      have hnew : ∀ (B0 : Nat) (_ : w2.heap.size ≤ B0) (n : Nat) (L : List (List UInt8 × List UInt8)) (v : Value), Own wS B0 129 2 v n (prs L) → Rd w9 2 v n (prs L) ∧ On (fun b => w.heap.size ≤ b ∧ b < w9.heap.size ∧ v9.ownBlock ≠ some b) v := fun B0 hB0 n L v h => by
        have hro : ∀ b, u3.ownBlock = some b → b < wr.heap.size := fun b e => (World.ownsRow.lt ho.out b e).2
        refine ⟨Rd.own (own_kpg (by first | exact h.alloc _ | exact (h.alloc _).drew) hg9 (fun b e e2 => ?_)), fun b e => ⟨?_, ?_, fun e2 => ?_⟩⟩
        · have h1 := (World.ownsRow.lt h b e).1
          have h2 := hro b e2
          omega
        · have h1 := (World.ownsRow.lt h b e).1
          have := hBw2.out
          omega
        · have h1 := (World.ownsRow.lt h b e).2
          omega
        · have h1 := World.ownsRow.lt h b e
          rcases hat with h2 | h2
          · have h3 := hro b (h2.symm.trans e2)
            omega
          · have h3 : b = wS.heap.size + 1 := Option.some.inj (e2.symm.trans h2)
            omega
      obtain ⟨nT, pT⟩ := hnew _ (Nat.le_refl _) nt ev.tr _ hoT.out
      obtain ⟨nR, pR⟩ := hnew _ hBT.out.size nr ev.rf _ hoR.out
      obtain ⟨nS, pS⟩ := hnew _ hBR.out.size ns ev.sf _ hoS.out
      have hD9 : Cn.DvsC w9 (fun b => w.heap.size ≤ b ∧ b < w9.heap.size ∧ v9.ownBlock ≠ some b) (l.take k ++ [ev]) (ys ++ [.int .i64 (ev.kind : Int), .string (str ev.m), .string (str ev.t), .slice AR nr cR, .int .i64 ev.st, .slice AS ns cS, .string (str ev.data), .slice AT nt cT]) := by
        refine ((hD.out.kp hK9 (fun b hp e => hp.2.2 e)).mono (fun b hp => ⟨hp.1, by omega, fun e => ?_⟩)).snoc ⟨_, _, _, rfl, by rw [hnr]; exact nR, fun _ => pR, by rw [hns]; exact nS, fun _ => pS, by rw [hnt]; exact nT, fun _ => pT⟩
        rcases hat with h2 | h2
        · exact hp.2.2 (h2.symm.trans e)
        · have h3 : b = wS.heap.size + 1 := Option.some.inj (e.symm.trans h2)
          have := hp.2.1
          omega
      replace hP9 := Lib.hid hP9
      replace ho9 := Lib.hid ho9
      replace hD9 := Lib.hid hD9
      clear nT pT nR pR nS pS hnew hK9 hBrS hzr hzS hz9 hat hat9
      go_wp2
      go_roundw
      case rel => exact ⟨k + 1, _, by go_num, by omega, ho9, Lib.hid (by rw [htk.out]; exact hD9.out), hP9⟩
      case measure => simp [intOf]; omega
    · obtain rfl : k = l.length := by omega
      rw [List.take_length] at hD
      go_wp2
      go_ret
      exact ⟨_, _, rfl, ho.out, hD.out, hB.out⟩
end Go.Proofs.YtjffffpfejmoiaaGreatDoor
