/-
  The elements of all values of a name, the code's and the document's.
-/
import Derived.Test.YtodgkppjabhhlaaDoorFAll
import Derived.Test.YtodgkppjabhhlaaDoorRList
namespace Go.Proofs.YtodgkppjabhhlaaDoor
open Go.RowKit Syn Fr

/-- append of a slice of texts. -/
theorem push_strs {ops : Array Oper} {rest : List Oper} {o : Oper} {a : Act} {Q : Exit → Act → World → Prop} {w : World} (s x : Operand)
    (hgd : o.guard = none) (ho : o.op = .call { callee := .builtin .append, args := #[s, x], argTypes := #[73, 73] })
    {B n m c b : Nat} {v : Value} {xs news : List Value} (hs : a.eval s = v) (hown : Own w B 9 1 v n xs) (hx : a.eval x = .slice (some ⟨b, 0, none⟩) m c) (hl : news.length = m)
    (hnews : ∀ j u, news[j]? = some u → w.cell? ⟨b, j, none⟩ = some u) (h1 : ∀ u ∈ news, u.oneCell' = true) (hn : n + m ≤ 10000000000) (hbase : B ≤ w.heap.size)
    (h : ∀ v' w', Own w' B 9 1 v' (n + m) (xs ++ news) → Below B w w' → wpList Tryd.prog ops Q rest (a.put o.dst v') w') : wpList Tryd.prog ops Q (o :: rest) a w := by
  refine step_push 73 9 (.string ⟨#[]⟩) 1 16 s x hgd ho Tryd.underlying73 infoStr rfl (by decide) (by decide) hs hown hx (news := news) (by omega) ?_ h1 hn hbase ?_
  · intro j u hj
    have hadd : (⟨b, 0, none⟩ : Addr).add j = ⟨b, j, none⟩ := by unfold Addr.add; split <;> simp_all
    rw [hadd]; exact hnews j u hj
  · intro v' w' ho' hb _
    exact h v' w' ho' hb
theorem list_len {x : List UInt8} {l : List (List UInt8)} (h : Syn.list x = some l) : l.length ≤ x.length + 1 := by
  unfold Syn.list at h
  cases hp : parts 44 x with
  | none => rw [hp] at h; cases h
  | some p =>
    rw [hp] at h
    have e : full p = l := by injection h
    have h1 := parts_len (s := str x) (by rw [bs_str]; exact hp)
    rw [str_size] at h1
    rw [← e]; exact Nat.le_trans (List.length_filter_le _ _) h1
theorem strs_one (l : List Bytes) : ∀ u ∈ strs l, u.oneCell' = true := by
  intro u hu
  unfold strs at hu
  rw [List.mem_map] at hu
  obtain ⟨x, -, rfl⟩ := hu
  rfl
theorem strs_append (a b : List Bytes) : strs (a ++ b) = strs a ++ strs b := by simp [strs]
/-- An owned row is nil or lies in a block. -/
theorem Own.two {w : World} {B n : Nat} {t : TypeId} {v : Value} {xs : List Value} (h : Own w B t 1 v n xs) :
    (v = .slice none 0 0 ∧ n = 0 ∧ xs = []) ∨ (∃ b c, v = .slice (some ⟨b, 0, none⟩) n c ∧ n ≤ c ∧ xs.length = n ∧ b < w.heap.size ∧ ∀ j u, xs[j]? = some u → w.cell? ⟨b, j, none⟩ = some u) := by
  have hl := h.1
  rcases id h with ⟨-, ⟨rfl, rfl⟩ | ⟨g, cap, cur, rfl, hg, hh, hnc, hr⟩⟩
  · left; exact ⟨rfl, rfl, List.eq_nil_of_length_eq_zero (by simpa using hl)⟩
  · right
    refine ⟨g, cap, rfl, hnc, by simpa using hl, ?_, fun j u hu => ?_⟩
    · rcases Nat.lt_or_ge g w.heap.size with h | h
      · exact h
      · rw [Array.getElem?_eq_none h] at hh; cases hh
    · have := World.ownsRow.cells h (g := g) rfl j u hu
      have e : (⟨g, 0, none⟩ : Addr).add j = ⟨g, j, none⟩ := by unfold Addr.add; split <;> simp_all
      rwa [e] at this
set_option maxRecDepth 100000 in
set_option maxHeartbeats 8000000 in
theorem elements_any (L : List (Bytes × Bytes)) (name : Bytes) (v : Value) (w : World) (hF : Few L) (hn : name.length ≤ 1000) (hR : Rd w 2 v L.length (prs L)) :
    Calls Tryd.prog 41 #[v, .string (str name)] w fun e w' => ∃ o, e = .returned (.tuple #[o, .int .i64 ((allV L name).length : Int), .bool (elemsGo [] (allV L name)).isSome]) ∧ PartsOut w' w.heap.size o (elemsGo [] (allV L name)) ∧ Below w.heap.size w w' := by
  have hA : ∀ w, Rd w 2 v L.length (prs L) → Calls Tryd.prog 35 #[v, .string (str name)] w fun e w' => ∃ o, e = .returned o ∧ Own w' w.heap.size 9 1 o (allV L name).length (strs (allV L name)) ∧ Below w.heap.size w w' := fun w h => all_any L name v w hF hn h
  have hvl : ∀ x ∈ allV L name, x.length ≤ 5000 := fun x hx => by
    obtain ⟨p, hp, rfl⟩ := allV_mem hx
    exact (hF.short p hp).2
  have hml : (allV L name).length ≤ 100 := Nat.le_trans (allV_length L name) hF.len
  clear hF
  generalize allV L name = V at *
  replace hA := Lib.hid hA
  replace hvl := Lib.hid hvl
  obtain ⟨A, cap, rfl, hcap, -, -⟩ := id hR
  replace hR := Lib.hid hR
  go_enter Tryd.func41, Tryd.ntmps41
  go_wp2_with fail
  refine (hA.out _ hR.out).mono ?_
  rintro e w1 ⟨vs, rfl, hvs, hb1⟩
  have hV : Rd w1 1 vs V.length (strs V) := Rd.own hvs
  obtain ⟨A1, c1, rfl, hc1, -, -⟩ := id hV
  replace hV := Lib.hid hV
  replace hb1 := Lib.hid hb1
  clear hvs
  go_wp2
  go_loopw [7, 18] (fun o i wr => ∃ (k : Nat) (acc : List Bytes), i = .int .i64 (k : Int) ∧ k ≤ V.length ∧ acc.length ≤ 5001 * k ∧ Hid (elemsGo [] V = elemsGo acc (V.drop k)) ∧ Hid (Own wr w1.heap.size 9 1 o acc.length (strs acc)) ∧ Hid (Below w1.heap.size w1 wr)) (fun _ i _ => V.length - (intOf i).toNat)
  case atStart => exact ⟨0, [], rfl, by omega, by simp, rfl, own_nil _ _ _ _, Below.refl _ _⟩
  case round =>
    obtain ⟨k, acc, rfl, hk, hac, hg, ho, hB⟩ := hrel
    have hBw := hB.out.size
    by_cases hlt : k < V.length
    · obtain ⟨A', cap', e', -, -, r'⟩ := hV.out.below hB.out
      cases e'
      obtain ⟨b1, o1, rfl, hl1, x1⟩ := r' (by omega)
      have d1 : wr.cell? ⟨b1, o1 + k, none⟩ = some (.string (str V[k])) := x1 k _ (strs_at hlt)
      have hst := hg.out.trans ((congrArg (elemsGo acc) (List.drop_eq_getElem_cons hlt)).trans (elemsGo_cons acc V[k] (V.drop (k + 1))))
      have hyl := hvl.out V[k] (List.getElem_mem hlt)
      clear x1 r' hg
      generalize V[k] = y at *
      have hli : ∀ w, Calls Tryd.prog 50 #[.string (str y)] w fun e w' => ∃ v, e = .returned (.tuple #[v, errV (errO (Syn.list y))]) ∧ PartsOut w' w.heap.size v (Syn.list y) ∧ Below w.heap.size w w' := fun w => list_any (str y) w (by rw [str_size]; omega)
      cases hly : Syn.list y with
      | none =>
        rw [hly] at hli hst
        have hf : Hid (elemsGo [] V = none) := Lib.hid hst
        clear hst
        replace hli := Lib.hid hli
        go_wp2_with fail
        refine (hli.out _).mono ?_
        rintro e w2 ⟨v2, rfl, -, hb2⟩
        have hB2 := Lib.hid (Below.next hb1.out hb1.out.size (hB.out.trans (hb2.mono hBw)))
        clear hb2
        rw [show errV (errO (none : Option (List (List UInt8)))) = .iface 50 (.int .i64 2) from rfl]
        go_wp2
        go_ret3
        exact ⟨_, by rw [hf.out]; rfl, by rw [hf.out]; rfl, hB2.out⟩
      | some l =>
        have hll := list_len hly
        rw [hly] at hli hst
        replace hst := Lib.hid hst
        replace hly := Lib.hid hly
        replace hli := Lib.hid hli
        go_wp2_with fail
        refine (hli.out _).mono ?_
        rintro e w2 ⟨v2, rfl, hv2, hb2⟩
        have hB2 := Lib.hid (hB.out.trans (hb2.mono hBw))
        have ho2 := Lib.hid (own_below ho.out hb2)
        have hBw2 := hB2.out.size
        clear hb2 d1
        rw [show errV (errO (some l)) = .nilIface from rfl]
        rcases Own.two (show Own w2 wr.heap.size 9 1 v2 l.length (strs l) from hv2) with ⟨rfl, hn0, -⟩ | ⟨b2, c2, rfl, -, hxl, hbl, hcell⟩
        · have hl0 : l = [] := List.eq_nil_of_length_eq_zero hn0
          subst hl0
          clear hv2 hn0
          rw [List.append_nil] at hst
          rcases Own.two ho2.out with ⟨rfl, ha0, -⟩ | ⟨b4, c4, rfl, hc4, -, -, -⟩
          · go_wp2
            go_roundw
            case rel => exact ⟨k + 1, acc, by go_num, by omega, by omega, hst, ho2, hB2⟩
            case measure => simp [intOf]; omega
          · go_wp2
            go_roundw
            case rel => exact ⟨k + 1, acc, by go_num, by omega, by omega, hst, ho2, hB2⟩
            case measure => simp [intOf]; omega
        · replace hcell := Lib.hid hcell
          clear hv2
          go_wp2_with (at_builtin; refine push_strs _ _ rfl rfl rfl ho2.out rfl hxl hcell.out (strs_one l) (by omega) hBw2 ?_; intro v3 w3 ho3 hb3; replace ho3 := Lib.hid ho3; have hB3 := Lib.hid (hB2.out.trans hb3); clear hb3)
          go_roundw
          case rel => exact ⟨k + 1, acc ++ l, by go_num, by omega, by rw [List.length_append]; omega, hst, Lib.hid (by rw [strs_append, List.length_append]; exact ho3.out), hB3⟩
          case measure => simp [intOf]; omega
    · obtain rfl : k = V.length := by omega
      have hf : Hid (elemsGo [] V = some acc) := Lib.hid (by rw [hg.out, List.drop_length]; rfl)
      have hown := Lib.hid (own_mono ho.out hb1.out.size)
      have hBf := Lib.hid (Below.next hb1.out hb1.out.size hB.out)
      go_wp2
      go_ret3
      exact ⟨_, by rw [hf.out]; rfl, by rw [hf.out]; exact hown.out, hBf.out⟩
set_option maxRecDepth 100000 in
set_option maxHeartbeats 8000000 in
theorem relements_any (L : List (Bytes × Bytes)) (name : Bytes) (v : Value) (w : World) (hF : Few L) (hn : name.length ≤ 1000) (hR : Rd w 2 v L.length (prs L)) :
    Calls Tryd.prog 42 #[v, .string (str name)] w fun e w' => ∃ o, e = .returned (.tuple #[o, .bool (elemsGo [] (allV L name)).isSome]) ∧ PartsOut w' w.heap.size o (elemsGo [] (allV L name)) ∧ Below w.heap.size w w' := by
  have hA : ∀ w, Rd w 2 v L.length (prs L) → Calls Tryd.prog 43 #[v, .string (str name)] w fun e w' => ∃ o, e = .returned o ∧ Own w' w.heap.size 9 1 o (allV L name).length (strs (allV L name)) ∧ Below w.heap.size w w' := fun w h => rall_any L name v w hF hn h
  have hvl : ∀ x ∈ allV L name, x.length ≤ 5000 := fun x hx => by
    obtain ⟨p, hp, rfl⟩ := allV_mem hx
    exact (hF.short p hp).2
  have hml : (allV L name).length ≤ 100 := Nat.le_trans (allV_length L name) hF.len
  clear hF
  generalize allV L name = V at *
  replace hA := Lib.hid hA
  replace hvl := Lib.hid hvl
  obtain ⟨A, cap, rfl, hcap, -, -⟩ := id hR
  replace hR := Lib.hid hR
  go_enter Tryd.func42, Tryd.ntmps42
  go_wp2_with fail
  refine (hA.out _ hR.out).mono ?_
  rintro e w1 ⟨vs, rfl, hvs, hb1⟩
  have hV : Rd w1 1 vs V.length (strs V) := Rd.own hvs
  obtain ⟨A1, c1, rfl, hc1, -, -⟩ := id hV
  replace hV := Lib.hid hV
  replace hb1 := Lib.hid hb1
  clear hvs
  go_wp2
  go_loopw [6, 8] (fun o i wr => ∃ (k : Nat) (acc : List Bytes), i = .int .i64 (k : Int) ∧ k ≤ V.length ∧ acc.length ≤ 5001 * k ∧ Hid (elemsGo [] V = elemsGo acc (V.drop k)) ∧ Hid (Own wr w1.heap.size 9 1 o acc.length (strs acc)) ∧ Hid (Below w1.heap.size w1 wr)) (fun _ i _ => V.length - (intOf i).toNat)
  case atStart => exact ⟨0, [], rfl, by omega, by simp, rfl, own_nil _ _ _ _, Below.refl _ _⟩
  case round =>
    obtain ⟨k, acc, rfl, hk, hac, hg, ho, hB⟩ := hrel
    have hBw := hB.out.size
    by_cases hlt : k < V.length
    · obtain ⟨A', cap', e', -, -, r'⟩ := hV.out.below hB.out
      cases e'
      obtain ⟨b1, o1, rfl, hl1, x1⟩ := r' (by omega)
      have d1 : wr.cell? ⟨b1, o1 + k, none⟩ = some (.string (str V[k])) := x1 k _ (strs_at hlt)
      have hst := hg.out.trans ((congrArg (elemsGo acc) (List.drop_eq_getElem_cons hlt)).trans (elemsGo_cons acc V[k] (V.drop (k + 1))))
      have hyl := hvl.out V[k] (List.getElem_mem hlt)
      clear x1 r' hg
      generalize V[k] = y at *
      have hli : ∀ w, Calls Tryd.prog 51 #[.string (str y)] w fun e w' => ∃ v, e = .returned (.tuple #[v, .bool (Syn.list y).isSome]) ∧ PartsOut w' w.heap.size v (Syn.list y) ∧ Below w.heap.size w w' := fun w => rlist_any (str y) w (by rw [str_size]; omega)
      cases hly : Syn.list y with
      | none =>
        rw [hly] at hli hst
        have hf : Hid (elemsGo [] V = none) := Lib.hid hst
        clear hst
        replace hli := Lib.hid hli
        go_wp2_with fail
        refine (hli.out _).mono ?_
        rintro e w2 ⟨v2, rfl, -, hb2⟩
        have hB2 := Lib.hid (Below.next hb1.out hb1.out.size (hB.out.trans (hb2.mono hBw)))
        clear hb2
        rw [show (none : Option (List (List UInt8))).isSome = false from rfl]
        go_wp2
        go_ret2
        exact ⟨_, by rw [hf.out]; rfl, by rw [hf.out]; rfl, hB2.out⟩
      | some l =>
        have hll := list_len hly
        rw [hly] at hli hst
        replace hst := Lib.hid hst
        replace hly := Lib.hid hly
        replace hli := Lib.hid hli
        go_wp2_with fail
        refine (hli.out _).mono ?_
        rintro e w2 ⟨v2, rfl, hv2, hb2⟩
        have hB2 := Lib.hid (hB.out.trans (hb2.mono hBw))
        have ho2 := Lib.hid (own_below ho.out hb2)
        have hBw2 := hB2.out.size
        clear hb2 d1
        rw [show (some l).isSome = true from rfl]
        rcases Own.two (show Own w2 wr.heap.size 9 1 v2 l.length (strs l) from hv2) with ⟨rfl, hn0, -⟩ | ⟨b2, c2, rfl, -, hxl, hbl, hcell⟩
        · have hl0 : l = [] := List.eq_nil_of_length_eq_zero hn0
          subst hl0
          clear hv2 hn0
          rw [List.append_nil] at hst
          rcases Own.two ho2.out with ⟨rfl, ha0, -⟩ | ⟨b4, c4, rfl, hc4, -, -, -⟩
          · go_wp2
            go_roundw
            case rel => exact ⟨k + 1, acc, by go_num, by omega, by omega, hst, ho2, hB2⟩
            case measure => simp [intOf]; omega
          · go_wp2
            go_roundw
            case rel => exact ⟨k + 1, acc, by go_num, by omega, by omega, hst, ho2, hB2⟩
            case measure => simp [intOf]; omega
        · replace hcell := Lib.hid hcell
          clear hv2
          go_wp2_with (at_builtin; refine push_strs _ _ rfl rfl rfl ho2.out rfl hxl hcell.out (strs_one l) (by omega) hBw2 ?_; intro v3 w3 ho3 hb3; replace ho3 := Lib.hid ho3; have hB3 := Lib.hid (hB2.out.trans hb3); clear hb3)
          go_roundw
          case rel => exact ⟨k + 1, acc ++ l, by go_num, by omega, by rw [List.length_append]; omega, hst, Lib.hid (by rw [strs_append, List.length_append]; exact ho3.out), hB3⟩
          case measure => simp [intOf]; omega
    · obtain rfl : k = V.length := by omega
      have hf : Hid (elemsGo [] V = some acc) := Lib.hid (by rw [hg.out, List.drop_length]; rfl)
      have hown := Lib.hid (own_mono ho.out hb1.out.size)
      have hBf := Lib.hid (Below.next hb1.out hb1.out.size hB.out)
      go_wp2
      go_ret2
      exact ⟨_, by rw [hf.out]; rfl, by rw [hf.out]; exact hown.out, hBf.out⟩
end Go.Proofs.YtodgkppjabhhlaaDoor
