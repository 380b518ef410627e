/-
  Layer 8: Joined of the document: adjacent data are one.
-/
import Derived.Test.YtjffffpfejmoiaaGreatDoorDRef
namespace Go.Proofs.YtjffffpfejmoiaaGreatDoor
open Go.RowKit Syn Hd Fr Ck
namespace Cn
def dsum (l : List Ev) : Nat := (l.map fun e => e.data.length).sum
theorem dsum_app (a b : List Ev) : dsum (a ++ b) = dsum a + dsum b := by unfold dsum; rw [List.map_append, List.sum_append]
theorem dsum_one (e : Ev) : dsum [e] = e.data.length := by simp [dsum]
theorem dsum_cons (e : Ev) (l : List Ev) : dsum (e :: l) = e.data.length + dsum l := by simp [dsum]
theorem dsum_jadd (o : List Ev) (e : Ev) : dsum (jadd o e) = dsum o + e.data.length := by
  rcases List.eq_nil_or_concat o with rfl | ⟨o', x, rfl⟩
  · show dsum ([] ++ [e]) = _; rw [dsum_app, dsum_one]
  · rw [List.concat_eq_append]
    unfold jadd
    rw [List.getLast?_append, List.getLast?_singleton]
    show dsum (if x.kind = 2 ∧ e.kind = 2 then (o' ++ [x]).dropLast ++ [{ x with data := x.data ++ e.data }] else (o' ++ [x]) ++ [e]) = _
    split
    · rw [List.dropLast_concat, dsum_app, dsum_app, dsum_one, dsum_one]
      show _ + (x.data ++ e.data).length = _
      rw [List.length_append]; omega
    · rw [dsum_app, dsum_app, dsum_one, dsum_one]
theorem dsum_foldl : ∀ (l o : List Ev), dsum (l.foldl jadd o) = dsum o + dsum l
  | [], o => (Nat.add_zero (dsum o)).symm
  | e :: l, o => by
    show dsum (l.foldl jadd (jadd o e)) = _
    rw [dsum_foldl l (jadd o e), dsum_jadd, dsum_cons]; omega
theorem dsum_take (l : List Ev) (k : Nat) : dsum (l.take k) ≤ dsum l := by
  have h := dsum_app (l.take k) (l.drop k)
  rw [List.take_append_drop] at h
  omega
theorem joined_snoc (l : List Ev) (e : Ev) : joined (l ++ [e]) = jadd (joined l) e := by
  unfold joined
  rw [List.foldl_append]; rfl
theorem jadd_two' {o : List Ev} {x e : Ev} (h : x.kind = 2 ∧ e.kind = 2) : jadd (o ++ [x]) e = o ++ [{ x with data := x.data ++ e.data }] := by
  unfold jadd
  rw [List.getLast?_append, List.getLast?_singleton, List.dropLast_concat]
  exact if_pos h
theorem jadd_one' {o : List Ev} {x e : Ev} (h : ¬ (x.kind = 2 ∧ e.kind = 2)) : jadd (o ++ [x]) e = (o ++ [x]) ++ [e] := by
  unfold jadd
  rw [List.getLast?_append, List.getLast?_singleton, List.dropLast_concat]
  exact if_neg h
theorem jadd_nil' (e : Ev) : jadd [] e = [e] := rfl
theorem joined_cnt (l : List Ev) : (joined l).length ≤ l.length := by have := foldl_cnt l []; unfold joined; simpa using this
end Cn
theorem own_set8 {w : World} {B n cap g : Nat} {t : TypeId} {xs : List Value} (h : Own w B t 8 (.slice (some ⟨g, 0, none⟩) n cap) n xs) (k : Nat) (u : Value) : Own (w.setCell ⟨g, k, none⟩ u) B t 8 (.slice (some ⟨g, 0, none⟩) n cap) n (xs.set k u) := by
  obtain ⟨hl, h⟩ := h
  rcases h with ⟨h1, -⟩ | ⟨g', cap', cur, e, hB, hg, hnc, hm, hs, ht⟩
  · cases h1
  · cases e
    have hb : Blk w g t cur := hg
    have hb2 := hb.set_ k u
    refine ⟨by rw [List.length_set]; exact hl, .inr ⟨g, cap, _, rfl, hB, hb2, hnc, hm, by rw [Array.size_setIfInBounds]; exact hs, ?_⟩⟩
    rw [Array.toList_setIfInBounds, List.take_set, ht]
/-- The cells of an own row that is not empty. -/
theorem own_at8 {w : World} {B n : Nat} {t : TypeId} {v : Value} {xs : List Value} (h : Own w B t 8 v n xs) (hn : 0 < n) : ∃ g cap, v = .slice (some ⟨g, 0, none⟩) n cap ∧ B ≤ g ∧ g < w.heap.size ∧ ∀ j u, xs[j]? = some u → w.cell? ⟨g, j, none⟩ = some u ∧ w.frozen? ⟨g, j, none⟩ = false := by
  obtain ⟨hl, h⟩ := h
  rcases h with ⟨h1, h2⟩ | ⟨g, cap, cur, e, hB, hg, hnc, hm, hs, ht⟩
  · exact absurd hn (by omega)
  · have hb : Blk w g t cur := hg
    refine ⟨g, cap, e, hB, hb.lt, fun j u hu => ⟨?_, hb.frozen j⟩⟩
    rw [hb.cell j]
    rw [← ht, List.getElem?_take] at hu
    split at hu
    · rw [← hu, Array.getElem?_toList]
    · cases hu
set_option maxRecDepth 100000 in
set_option maxHeartbeats 8000000 in
theorem joined_any {l : List Cn.Ev} {P : Nat → Prop} {xs : List Value} (v : Value) (w : World) (hD : Cn.DvsC w P l xs) (hR : Rd w 8 v l.length xs) (hn : l.length ≤ 1000000) (hs : Cn.dsum l ≤ 4000000) :
    Calls Tryz.prog 21 #[v] w fun e w' => ∃ o ys, e = .returned o ∧ Own w' w.heap.size 101 8 o (Cn.joined l).length ys ∧ Cn.DvsC w P (Cn.joined l) ys ∧ Below w.heap.size w w' := by
  obtain ⟨A, cap, rfl, hcap, -, -⟩ := id hR
  replace hR := Lib.hid hR
  replace hD := Lib.hid hD
  go_enter Tryz.func21, Tryz.ntmps21
  go_wp2
  go_loopw [3, 4] (fun o i wr => ∃ (k : Nat) (ys : List Value), i = .int .i64 (k : Int) ∧ k ≤ l.length ∧ Hid (Own wr w.heap.size 101 8 o (Cn.joined (l.take k)).length ys) ∧ Hid (Cn.DvsC w P (Cn.joined (l.take k)) ys) ∧ Hid (Below w.heap.size w wr)) (fun _ i _ => l.length - (intOf i).toNat)
  case atStart => exact ⟨0, [], rfl, by omega, own_nil _ _ _ _, .nil, Below.refl _ _⟩
  case round =>
    obtain ⟨k, ys, rfl, hk, ho, hDo, hB⟩ := hrel
    have hBw := hB.out.size
    by_cases hlt : k < l.length
    · obtain ⟨zs, hz, hx⟩ := hD.out.at_ hlt
      have htk := Lib.hid (show Cn.joined (l.take (k + 1)) = Cn.jadd (Cn.joined (l.take k)) l[k] by rw [List.take_succ_eq_append_getElem hlt, Cn.joined_snoc])
      have hsum : Cn.dsum (Cn.joined (l.take k)) + l[k].data.length ≤ 4000000 := by
        have h1 := Cn.dsum_take l (k + 1)
        rw [List.take_succ_eq_append_getElem hlt, Cn.dsum_app, Cn.dsum_one] at h1
        have h2 := Cn.dsum_foldl (l.take k) []
        have h3 : Cn.dsum ([] : List Cn.Ev) = 0 := rfl
        unfold Cn.joined
        omega
      have hcnt : (Cn.joined (l.take k)).length ≤ 1000000 := by
        have h1 := Cn.joined_cnt (l.take k)
        rw [List.length_take] at h1
        omega
      generalize l[k] = ev at *
      generalize Cn.joined (l.take k) = jo at *
      have hzd := hz
      obtain ⟨vr, vs, vt, rfl, r1, -, r2, -, r4, -⟩ := hz
      obtain ⟨A', cap', e', -, -, r'⟩ := hR.out.below hB.out
      cases e'
      obtain ⟨b1, o1, rfl, _, x1⟩ := r' (by omega)
      obtain ⟨Ar, cr, rfl, -, -, -⟩ := id r1
      obtain ⟨As, cs, rfl, -, -, -⟩ := id r2
      obtain ⟨At, ct, rfl, -, -, -⟩ := id r4
      have d0 : wr.cell? ⟨b1, o1 + k * 8, none⟩ = some (.int .i64 (ev.kind : Int)) := x1 _ _ ((hx 0 (by decide)).trans rfl)
      have d1 : wr.cell? ⟨b1, o1 + k * 8 + 1, none⟩ = some (.string (str ev.m)) := x1 _ _ ((hx 1 (by decide)).trans rfl)
      have d2 : wr.cell? ⟨b1, o1 + k * 8 + 2, none⟩ = some (.string (str ev.t)) := x1 _ _ ((hx 2 (by decide)).trans rfl)
      have d3 : wr.cell? ⟨b1, o1 + k * 8 + 3, none⟩ = some (.slice Ar ev.rf.length cr) := x1 _ _ ((hx 3 (by decide)).trans rfl)
      have d4 : wr.cell? ⟨b1, o1 + k * 8 + 4, none⟩ = some (.int .i64 ev.st) := x1 _ _ ((hx 4 (by decide)).trans rfl)
      have d5 : wr.cell? ⟨b1, o1 + k * 8 + 5, none⟩ = some (.slice As ev.sf.length cs) := x1 _ _ ((hx 5 (by decide)).trans rfl)
      have d6 : wr.cell? ⟨b1, o1 + k * 8 + 6, none⟩ = some (.string (str ev.data)) := x1 _ _ ((hx 6 (by decide)).trans rfl)
      have d7 : wr.cell? ⟨b1, o1 + k * 8 + 7, none⟩ = some (.slice At ev.tr.length ct) := x1 _ _ ((hx 7 (by decide)).trans rfl)
      clear x1 r' hx r1 r2 r4
      replace hzd := Lib.hid hzd
      obtain ⟨Ao, co, rfl, -, -, -⟩ := Rd.own ho.out
      rcases List.eq_nil_or_concat jo with hjo | ⟨jo', x, hjo⟩
      · subst hjo
        go_wp2_with (at_builtin; refine push_dv _ _ rfl rfl rfl ho.out (by rfl) (by intro u hu; simp only [List.mem_cons, List.mem_nil_iff, or_false] at hu; rcases hu with rfl | rfl | rfl | rfl | rfl | rfl | rfl | rfl <;> rfl) (by omega) (by omega) ?_; intro v7 w7 ho7 hg7 hat7; have hB7 := Lib.hid ((hB.out.alloc hBw _).trans (below_grown (own_below ho.out ((Below.refl _ _).alloc (Nat.le_refl _) _)) hg7 (by rw [alloc_size']; omega))); replace ho7 := Lib.hid ho7; clear hg7 hat7)
        go_roundw
        case rel => exact ⟨k + 1, _, by go_num, by omega, Lib.hid (by rw [htk.out]; exact ho7.out), Lib.hid (by rw [htk.out]; exact hDo.out.snoc hzd.out), hB7⟩
        case measure => simp [intOf]; omega
      · rw [List.concat_eq_append] at hjo
        obtain ⟨p, hp⟩ : ∃ p, p = jo'.length := ⟨_, rfl⟩
        have hl : jo.length = p + 1 := by rw [hjo, hp, List.length_append, List.length_singleton]
        have hxs : x.data.length ≤ Cn.dsum jo := by rw [hjo, Cn.dsum_app, Cn.dsum_one]; omega
        rw [hl] at ho ⊢
        obtain ⟨g, cap2, he, hgB, hgl, hcell⟩ := own_at8 ho.out (by omega)
        cases he
        obtain ⟨us, hu, hux⟩ := hDo.out.at_ (i := p) (by omega)
        have hgx : jo[p]'(by omega) = x := by subst hjo; rw [List.getElem_append_right (by omega)]; simp [hp]
        rw [hgx] at hu
        obtain ⟨_, _, _, rfl, -⟩ := hu
        have e0 : wr.cell? ⟨g, p * 8, none⟩ = some (.int .i64 (x.kind : Int)) := (hcell _ _ ((hux 0 (by decide)).trans rfl)).1
        have e6 : wr.cell? ⟨g, p * 8 + 6, none⟩ = some (.string (str x.data)) := (hcell _ _ ((hux 6 (by decide)).trans rfl)).1
        have e6f : wr.frozen? ⟨g, p * 8 + 6, none⟩ = false := (hcell _ _ ((hux 6 (by decide)).trans rfl)).2
        have z1 : (str x.data).size = x.data.length := str_size _
        have z2 : (str ev.data).size = ev.data.length := str_size _
        clear hux hcell
        have hpb : p ≤ 1000000 := by omega
        have hp2 := Lib.hid hp
        have hl2 := Lib.hid hl
        have hjo2 := Lib.hid hjo
        clear hp hl hjo hgx hgl
        by_cases hkk : x.kind = 2 ∧ ev.kind = 2
        · obtain ⟨hk1, hk2⟩ := hkk
          have hj := Cn.jadd_two' (o := jo') (x := x) (e := ev) ⟨hk1, hk2⟩
          rw [hk1] at e0
          rw [hk2] at d0
          replace hj := Lib.hid hj
          go_wp2_with fail
          go_region
          go_wp2
          have hDn := Cn.DvsC.last (x := x) (by rw [← hjo2.out]; exact hDo.out) (x.data ++ ev.data)
          rw [← str_append, ← hp2.out] at hDn
          have hOn := own_set8 ho.out (p * 8 + 6) (.string (str x.data ++ str ev.data))
          have hBn := Lib.hid ((hB.out.setCell (p := ⟨g, p * 8 + 6, none⟩) hgB (.string (str x.data ++ str ev.data))).drew)
          replace hDn := Lib.hid hDn
          replace hOn := Lib.hid (hOn.drew)
          go_roundw
          case rel => exact ⟨k + 1, _, by go_num, by omega, Lib.hid (by rw [htk.out, hjo2.out, hj.out, List.length_append, ← hp2.out]; exact hOn.out), Lib.hid (by rw [htk.out, hjo2.out, hj.out]; exact hDn.out), hBn⟩
          case measure => simp [intOf]; omega
        · have hj := Cn.jadd_one' (o := jo') (x := x) (e := ev) hkk
          replace hj := Lib.hid hj
          have hkk2 : ¬ ((ev.kind : Int) = 2) ∨ (ev.kind : Int) = 2 ∧ ¬ ((x.kind : Int) = 2) := by omega
          rcases hkk2 with h2 | ⟨h2, h3⟩
          all_goals
            go_wp2_with (at_builtin; refine push_dv _ _ rfl rfl rfl ho.out (by rfl) (by intro u hu; simp only [List.mem_cons, List.mem_nil_iff, or_false] at hu; rcases hu with rfl | rfl | rfl | rfl | rfl | rfl | rfl | rfl <;> rfl) (by omega) (by omega) ?_; intro v7 w7 ho7 hg7 hat7; have hB7 := Lib.hid ((hB.out.alloc hBw _).trans (below_grown (own_below ho.out ((Below.refl _ _).alloc (Nat.le_refl _) _)) hg7 (by rw [alloc_size']; omega))); replace ho7 := Lib.hid ho7; clear hg7 hat7)
            go_roundw
            case rel => exact ⟨k + 1, _, by go_num, by omega, Lib.hid (by rw [htk.out, hjo2.out, hj.out, ← hjo2.out, List.length_append, hl2.out]; exact ho7.out), Lib.hid (by rw [htk.out, hjo2.out, hj.out, ← hjo2.out]; first | exact hDo.out.snoc hzd.out | exact hDo.out.snoc (by rw [← h2]; exact hzd.out)), hB7⟩
            case measure => simp [intOf]; omega
    · obtain rfl : k = l.length := by omega
      rw [List.take_length] at ho hDo
      go_wp2
      go_ret
      exact ⟨_, _, rfl, ho.out, hDo.out, hB.out⟩
end Go.Proofs.YtjffffpfejmoiaaGreatDoor
