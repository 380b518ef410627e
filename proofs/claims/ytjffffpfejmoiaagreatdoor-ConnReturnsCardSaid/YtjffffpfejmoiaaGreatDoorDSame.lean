/-
  Layer 8: Same of the statements.
-/
import Derived.Test.YtjffffpfejmoiaaGreatDoorDRef
import Derived.Deep.DeepCutAuto
namespace Go.Proofs.YtjffffpfejmoiaaGreatDoor
open Go.RowKit Syn Hd Fr Ck
set_option maxRecDepth 100000 in
set_option maxHeartbeats 4000000 in
theorem flds_yes {v1 v2 : Value} {l : List (List UInt8 × List UInt8)} (w : World) (h1 : Rd w 2 v1 l.length (prs l)) (h2 : Rd w 2 v2 l.length (prs l)) (hm : l.length ≤ 1000) :
    Calls Tryz.prog 43 #[v1, v2] w fun e w' => e = .returned (.bool true) ∧ ∃ n, w' = w.drewN n := by
  obtain ⟨A1, c1, rfl, hc1, -, r1⟩ := h1
  obtain ⟨A2, c2, rfl, hc2, -, r2⟩ := h2
  go_enter Tryz.func43, Tryz.ntmps43
  go_wp2
  go_loopw [5] (fun i wr => ∃ k m : Nat, i = .int .i64 k ∧ k ≤ l.length ∧ wr = w.drewN m) (fun i _ => l.length - (intOf i).toNat)
  case atStart => exact ⟨0, 0, rfl, by omega, rfl⟩
  case round =>
    obtain ⟨k, m, rfl, hk, hw⟩ := hrel
    by_cases hlt : k < l.length
    · obtain ⟨b1, o1, rfl, _, x1⟩ := r1 (by omega)
      obtain ⟨b2, o2, rfl, _, x2⟩ := r2 (by omega)
      have d1 : wr.cell? ⟨b1, o1 + k * 2, none⟩ = some (.string (str l[k].1)) := by rw [hw]; exact x1 _ _ (prs_at0 hlt)
      have d2 : wr.cell? ⟨b1, o1 + k * 2 + 1, none⟩ = some (.string (str l[k].2)) := by rw [hw]; exact x1 _ _ (prs_at1 hlt)
      have d3 : wr.cell? ⟨b2, o2 + k * 2, none⟩ = some (.string (str l[k].1)) := by rw [hw]; exact x2 _ _ (prs_at0 hlt)
      have d4 : wr.cell? ⟨b2, o2 + k * 2 + 1, none⟩ = some (.string (str l[k].2)) := by rw [hw]; exact x2 _ _ (prs_at1 hlt)
      have Hw := Lib.hid hw
      have q1 : ((str l[k].1).toList != (str l[k].1).toList) = false := bne_self_eq_false _
      have q2 : ((str l[k].2).toList != (str l[k].2).toList) = false := bne_self_eq_false _
      clear hw x1 x2
      generalize str l[k].1 = s1 at *
      generalize str l[k].2 = s2 at *
      go_wp2_with fail
      go_quiet (fail)
      go_wp2
      go_roundw
      case rel => exact ⟨k + 1, m + nq, by go_num, by omega, by rw [Hw.out, World.drewN_drewN]⟩
      case measure => simp [intOf]; omega
    · obtain rfl : k = l.length := by omega
      go_wp2
      go_ret
      exact ⟨rfl, m, rfl⟩
theorem fin2 (w : World) (t : TypeId) (a b : Array Value) : Blk ((w.alloc (.cells a t)).alloc (.cells b t)).drew w.heap.size t a ∧ Blk ((w.alloc (.cells a t)).alloc (.cells b t)).drew (w.heap.size + 1) t b ∧ Below w.heap.size w ((w.alloc (.cells a t)).alloc (.cells b t)).drew :=
  ⟨(Blk.new w t a).alloc _, (by have := Blk.new (w.alloc (.cells a t)) t b; rw [alloc_size'] at this; exact this), (((Below.refl _ w).alloc (Nat.le_refl _) _).alloc (by rw [alloc_size']; omega) _).drew⟩
set_option maxRecDepth 100000 in
set_option maxHeartbeats 16000000 in
theorem same_yes8 {l : List Cn.Ev} {P Q : Nat → Prop} {xs ys : List Value} {v1 v2 : Value} (w : World) (hE1 : Cn.DvsC w P l xs) (hR1 : Rd w 8 v1 l.length xs) (hE2 : Cn.DvsC w Q l ys) (hR2 : Rd w 8 v2 l.length ys) (hf : ∀ e ∈ l, Cn.EvF e) (hn : l.length ≤ 1000000) :
    Calls Tryz.prog 20 #[v1, v2] w fun e w' => e = .returned (.bool true) ∧ Below w.heap.size w w' := by
  obtain ⟨A1, c1, rfl, hc1, -, -⟩ := id hR1
  obtain ⟨A2, c2, rfl, hc2, -, -⟩ := id hR2
  replace hR1 := Lib.hid hR1
  replace hR2 := Lib.hid hR2
  replace hE1 := Lib.hid hE1
  replace hE2 := Lib.hid hE2
  replace hf := Lib.hid hf
  go_enter Tryz.func20, Tryz.ntmps20
  go_wp2
  go_loopw [5] (fun i wr => ∃ k : Nat, i = .int .i64 (k : Int) ∧ k ≤ l.length ∧ Hid (Below w.heap.size w wr)) (fun i _ => l.length - (intOf i).toNat)
  case atStart => exact ⟨0, rfl, by omega, Lib.hid (Below.refl _ _)⟩
  case round =>
    obtain ⟨k, rfl, hk, hB⟩ := hrel
    have hBw := hB.out.size
    by_cases hlt : k < l.length
    · obtain ⟨zs, hz, hx⟩ := hE1.out.at_ hlt
      obtain ⟨us, hu, hy⟩ := hE2.out.at_ hlt
      have hfe := hf.out _ (List.getElem_mem hlt)
      generalize l[k] = e at *
      obtain ⟨vr, vs, vt, rfl, r1, -, r2, -, r4, -⟩ := hz
      obtain ⟨ur, us', ut, rfl, q1, -, q2, -, q4, -⟩ := hu
      obtain ⟨A', cap', e', -, -, r'⟩ := hR1.out.below hB.out
      cases e'
      obtain ⟨b1, o1, rfl, _, x1⟩ := r' (by omega)
      obtain ⟨A', cap', e', -, -, r'⟩ := hR2.out.below hB.out
      cases e'
      obtain ⟨b2, o2, rfl, _, x2⟩ := r' (by omega)
      obtain ⟨Ar, cr, rfl, -, -, -⟩ := id r1
      obtain ⟨As, cs, rfl, -, -, -⟩ := id r2
      obtain ⟨At, ct, rfl, -, -, -⟩ := id r4
      obtain ⟨Br, dr, rfl, -, -, -⟩ := id q1
      obtain ⟨Bs, ds, rfl, -, -, -⟩ := id q2
      obtain ⟨Bt, dt, rfl, -, -, -⟩ := id q4
      generalize hnr : e.rf.length = nr at *
      generalize hns : e.sf.length = ns at *
      generalize hnt : e.tr.length = nt at *
      have d0 : wr.cell? ⟨b1, o1 + k * 8, none⟩ = some (.int .i64 (e.kind : Int)) := x1 _ _ ((hx 0 (by decide)).trans rfl)
      have d1 : wr.cell? ⟨b1, o1 + k * 8 + 1, none⟩ = some (.string (str e.m)) := x1 _ _ ((hx 1 (by decide)).trans rfl)
      have d2 : wr.cell? ⟨b1, o1 + k * 8 + 2, none⟩ = some (.string (str e.t)) := x1 _ _ ((hx 2 (by decide)).trans rfl)
      have d3 : wr.cell? ⟨b1, o1 + k * 8 + 3, none⟩ = some (.slice Ar nr cr) := x1 _ _ ((hx 3 (by decide)).trans rfl)
      have d4 : wr.cell? ⟨b1, o1 + k * 8 + 4, none⟩ = some (.int .i64 e.st) := x1 _ _ ((hx 4 (by decide)).trans rfl)
      have d5 : wr.cell? ⟨b1, o1 + k * 8 + 5, none⟩ = some (.slice As ns cs) := x1 _ _ ((hx 5 (by decide)).trans rfl)
      have d6 : wr.cell? ⟨b1, o1 + k * 8 + 6, none⟩ = some (.string (str e.data)) := x1 _ _ ((hx 6 (by decide)).trans rfl)
      have d7 : wr.cell? ⟨b1, o1 + k * 8 + 7, none⟩ = some (.slice At nt ct) := x1 _ _ ((hx 7 (by decide)).trans rfl)
      have f0 : wr.cell? ⟨b2, o2 + k * 8, none⟩ = some (.int .i64 (e.kind : Int)) := x2 _ _ ((hy 0 (by decide)).trans rfl)
      have f1 : wr.cell? ⟨b2, o2 + k * 8 + 1, none⟩ = some (.string (str e.m)) := x2 _ _ ((hy 1 (by decide)).trans rfl)
      have f2 : wr.cell? ⟨b2, o2 + k * 8 + 2, none⟩ = some (.string (str e.t)) := x2 _ _ ((hy 2 (by decide)).trans rfl)
      have f3 : wr.cell? ⟨b2, o2 + k * 8 + 3, none⟩ = some (.slice Br nr dr) := x2 _ _ ((hy 3 (by decide)).trans rfl)
      have f4 : wr.cell? ⟨b2, o2 + k * 8 + 4, none⟩ = some (.int .i64 e.st) := x2 _ _ ((hy 4 (by decide)).trans rfl)
      have f5 : wr.cell? ⟨b2, o2 + k * 8 + 5, none⟩ = some (.slice Bs ns ds) := x2 _ _ ((hy 5 (by decide)).trans rfl)
      have f6 : wr.cell? ⟨b2, o2 + k * 8 + 6, none⟩ = some (.string (str e.data)) := x2 _ _ ((hy 6 (by decide)).trans rfl)
      have f7 : wr.cell? ⟨b2, o2 + k * 8 + 7, none⟩ = some (.slice Bt nt dt) := x2 _ _ ((hy 7 (by decide)).trans rfl)
      clear x1 x2 r' hx hy
      replace r1 := Lib.hid r1
      replace r2 := Lib.hid r2
      replace r4 := Lib.hid r4
      replace q1 := Lib.hid q1
      replace q2 := Lib.hid q2
      replace q4 := Lib.hid q4
      replace hfe := Lib.hid hfe
      go_upto_region 6 with (fail)
      go_cut [6, 7] (fun v6 v7 wx => (∃ g6 g7, v6 = .pointer (some ⟨g6, 0, none⟩) ∧ v7 = .pointer (some ⟨g7, 0, none⟩) ∧ Blk wx g6 101 #[.int .i64 (e.kind : Int), .string (str e.m), .string (str e.t), .slice Ar nr cr, .int .i64 e.st, .slice As ns cs, .string (str e.data), .slice At nt ct] ∧ Blk wx g7 101 #[.int .i64 (e.kind : Int), .string (str e.m), .string (str e.t), .slice Br nr dr, .int .i64 e.st, .slice Bs ns ds, .string (str e.data), .slice Bt nt dt]) ∧ Below wr.heap.size wr wx)
      case first =>
        go_wp2_with fail
        go_region
        all_goals
          go_wp2_with fail
          go_meet
          refine ⟨⟨_, _, rfl, rfl, ?_, ?_⟩, ?_⟩
          · first | with_reducible exact (fin2 _ _ _ _).1 | with_reducible exact (fin2 _ _ _ _).2.1
          · first | with_reducible exact (fin2 _ _ _ _).1 | with_reducible exact (fin2 _ _ _ _).2.1
          · with_reducible exact (fin2 _ _ _ _).2.2
      case rest =>
        obtain ⟨⟨g6, g7, rfl, rfl, hb6, hb7⟩, hBx⟩ := hcut
        rename World => wx
        have a0 := hb6.cell 0
        have a1 := hb6.cell 1
        have a2 := hb6.cell 2
        have a3 := hb6.cell 3
        have a4 := hb6.cell 4
        have a5 := hb6.cell 5
        have a6 := hb6.cell 6
        have a7 := hb6.cell 7
        have z0 := hb7.cell 0
        have z1 := hb7.cell 1
        have z2 := hb7.cell 2
        have z3 := hb7.cell 3
        have z4 := hb7.cell 4
        have z5 := hb7.cell 5
        have z6 := hb7.cell 6
        have z7 := hb7.cell 7
        have hBz := Lib.hid (hB.out.trans (hBx.mono hBw))
        have hT := Lib.hid (fun w' (hb : Below w.heap.size w w') => flds_yes (l := e.tr) (v1 := .slice At nt ct) (v2 := .slice Bt nt dt) w' (by rw [hnt]; exact r4.out.below hb) (by rw [hnt]; exact q4.out.below hb) hfe.out.tr)
        have hF := Lib.hid (fun w' (hb : Below w.heap.size w w') => flds_yes (l := e.rf) (v1 := .slice Ar nr cr) (v2 := .slice Br nr dr) w' (by rw [hnr]; exact r1.out.below hb) (by rw [hnr]; exact q1.out.below hb) hfe.out.rf)
        have hS := Lib.hid (fun w' (hb : Below w.heap.size w w') => flds_yes (l := e.sf) (v1 := .slice As ns cs) (v2 := .slice Bs ns ds) w' (by rw [hns]; exact r2.out.below hb) (by rw [hns]; exact q2.out.below hb) hfe.out.sf)
        have p1 : ((str e.m).toList != (str e.m).toList) = false := bne_self_eq_false _
        have p2 : ((str e.t).toList != (str e.t).toList) = false := bne_self_eq_false _
        have p3 : ((str e.data).toList != (str e.data).toList) = false := bne_self_eq_false _
        clear hb6 hb7 hBx r1 r2 r4 q1 q2 q4 d0 d1 d2 d3 d4 d5 d6 d7 f0 f1 f2 f3 f4 f5 f6 f7 hnr hns hnt
        generalize str e.m = s1 at *
        generalize str e.t = s2 at *
        generalize str e.data = s3 at *
        go_wp2_with fail
        refine (hT.out _ hBz.out).mono ?_
        rintro ee w9 ⟨rfl, n9, rfl⟩
        have hB9 := Lib.hid (below_drewN hBz.out n9)
        go_wp2_with fail
        refine (hF.out _ hB9.out).mono ?_
        rintro ee w10 ⟨rfl, n10, rfl⟩
        have hB10 := Lib.hid (below_drewN hBz.out (n9 + n10))
        go_wp2_with fail
        refine (hS.out _ hB10.out).mono ?_
        rintro ee w11 ⟨rfl, n11, rfl⟩
        have hB11 := Lib.hid (below_drewN hBz.out (n9 + n10 + n11))
        go_wp2_with fail
        go_roundw
        case rel => exact ⟨k + 1, by go_num, by omega, hB11⟩
        case measure => simp [intOf]; omega
    · obtain rfl : k = l.length := by omega
      go_wp2
      go_ret
      exact ⟨rfl, hB.out⟩
end Go.Proofs.YtjffffpfejmoiaaGreatDoor
