/-
  The frame by the fields, the code's.
-/
import Derived.Test.YtodgkppjabhhlaaDoorFElems
import Derived.Test.YtodgkppjabhhlaaDoorFNum
import Derived.Test.YtodgkppjabhhlaaDoorCut
import Derived.Laws.ResultCell
namespace Go.Proofs.YtodgkppjabhhlaaDoor
open Go.RowKit Syn Fr

def frameV (o : Out) : Value := .agg #[.int .i64 (o.1.1 : Int), .int .i64 (o.1.2 : Int)]
theorem isEmpty_pos {α : Type} {l : List α} (h : 0 < l.length) : l.isEmpty = false := by cases l with | nil => simp at h | cons => rfl
theorem isEmpty_zero {α : Type} {l : List α} (h : ¬ 0 < l.length) : l = [] := List.eq_nil_of_length_eq_zero (by omega)
section
variable {K : Nat} {L : List (Bytes × Bytes)}
theorem frame_both (h1 : 0 < (allV L cl).length) (h2 : 0 < (allV L te).length) : frame K L = ((0, 0), 31) := by
  unfold frame; rw [isEmpty_pos h1, isEmpty_pos h2]; rfl
theorem frame_te (h1 : ¬ 0 < (allV L cl).length) (h2 : 0 < (allV L te).length) : frame K L = frameC (elemsGo [] (allV L te)) := by
  unfold frame; rw [isEmpty_zero h1, isEmpty_pos h2]; rfl
theorem frame_none (h1 : ¬ 0 < (allV L cl).length) (h2 : ¬ 0 < (allV L te).length) : frame K L = ((K, 0), 0) := by
  unfold frame; rw [isEmpty_zero h1, isEmpty_zero h2]; rfl
theorem frame_cl (h1 : 0 < (allV L cl).length) (h2 : ¬ 0 < (allV L te).length) : frame K L = frameL (elemsGo [] (allV L cl)) := by
  unfold frame; rw [isEmpty_pos h1, isEmpty_zero h2]; rfl
end
theorem frameC_long {l : List Bytes} (h : l.length ≠ 1) : frameC (some l) = ((0, 0), 32) := by
  match l, h with
  | [], _ => rfl
  | [_], h => exact absurd rfl h
  | _ :: _ :: _, _ => rfl
theorem all_eq_take {x : Bytes} {l : List Bytes} {k : Nat} (h : k < l.length) (ha : (l.take k).all (· == x) = true) (hx : l[k] = x) : (l.take (k + 1)).all (· == x) = true := by
  rw [List.take_succ_eq_append_getElem h, List.all_append, ha, hx]; simp
theorem not_all {x : Bytes} {l : List Bytes} {k : Nat} (h : k < l.length) (hx : l[k] ≠ x) : l.all (· == x) = false := by
  rw [List.all_eq_false]; exact ⟨l[k], List.getElem_mem h, by simpa using hx⟩
theorem frameL_cons (x : Bytes) (r : List Bytes) : frameL (some (x :: r)) = if (x :: r).all (· == x) then lengthOf x else ((0, 0), 30) := by
  rw [List.all_cons, beq_self_eq_true, Bool.true_and]; rfl
theorem list_most {x : Bytes} {l : List Bytes} (h : Syn.list x = some l) : ∀ y ∈ l, y.length ≤ x.length := by
  unfold Syn.list at h
  cases hp : parts 44 x with
  | none => rw [hp] at h; cases h
  | some p =>
    rw [hp] at h
    have e : full p = l := by injection h
    intro y hy
    rw [← e] at hy
    exact (parts_most hp).2 y (List.mem_filter.1 (show y ∈ p.filter _ from hy)).1
theorem elems_most {m : Nat} : ∀ (V acc l : List Bytes), elemsGo acc V = some l → (∀ a ∈ acc, a.length ≤ m) → (∀ v ∈ V, v.length ≤ m) → ∀ x ∈ l, x.length ≤ m
  | [], acc, l, h, ha, _ => by rw [elemsGo] at h; cases h; exact ha
  | v :: r, acc, l, h, ha, hv => by
    rw [elemsGo_cons] at h
    split at h
    · cases h
    · next l2 hl =>
      refine elems_most r _ l h (fun a hm => ?_) (fun x hx => hv x (by simp [hx]))
      rw [List.mem_append] at hm
      rcases hm with hm | hm
      · exact ha a hm
      · exact Nat.le_trans (list_most hl a hm) (hv v (by simp))
theorem elems_len : ∀ (V acc l : List Bytes), elemsGo acc V = some l → (∀ v ∈ V, v.length ≤ 5000) → l.length ≤ acc.length + 5001 * V.length
  | [], acc, l, h, _ => by rw [elemsGo] at h; cases h; simp
  | v :: r, acc, l, h, hv => by
    rw [elemsGo_cons] at h
    split at h
    · cases h
    · next l2 hl =>
      have h1 := elems_len r _ l h (fun x hx => hv x (by simp [hx]))
      have h2 := list_len hl
      have h3 := hv v (by simp)
      rw [List.length_append] at h1
      rw [List.length_cons]; omega
theorem elem_few {L : List (Bytes × Bytes)} {name : Bytes} {l : List Bytes} (hF : Few L) (h : elemsGo [] (allV L name) = some l) : l.length ≤ 600000 := by
  have h1 := elems_len _ _ _ h fun v hv => by
    obtain ⟨p, hp, rfl⟩ := allV_mem hv
    exact (hF.short p hp).2
  have h2 := allV_length L name
  have h3 := hF.len
  simp at h1; omega
theorem two_below' {w w1 : World} {G : Nat} (h : Below G w w1) (a b : Value) : Below G w ((w1.setCell ⟨G, 0, none⟩ a).setCell ⟨G, 1, none⟩ b) :=
  (h.setCell (p := ⟨G, 0, none⟩) (Nat.le_refl _) a).setCell (p := ⟨G, 1, none⟩) (Nat.le_refl _) b
theorem elem_short {L : List (Bytes × Bytes)} {name : Bytes} {l : List Bytes} (hF : Few L) (h : elemsGo [] (allV L name) = some l) : ∀ x ∈ l, x.length ≤ 5000 :=
  elems_most _ _ _ h (by simp) fun v hv => by
    obtain ⟨p, hp, rfl⟩ := allV_mem hv
    exact (hF.short p hp).2
set_option maxRecDepth 100000 in
set_option maxHeartbeats 16000000 in
theorem of_frame (L : List (Bytes × Bytes)) (v : Value) (w : World) (hF : Few L) (hR : Rd w 2 v L.length (prs L)) :
    Calls Tryd.prog 28 #[v] w fun e w' => e = .returned (.tuple #[frameV (frame 4 L), errV (frame 4 L).2]) ∧ Below w.heap.size w w' := by
  obtain ⟨G, hG⟩ : ∃ G, w.heap.size = G := ⟨_, rfl⟩
  have hE1 : ∀ w, Rd w 2 v L.length (prs L) → Calls Tryd.prog 41 #[v, .string ⟨#[99, 111, 110, 116, 101, 110, 116, 45, 108, 101, 110, 103, 116, 104]⟩] w fun e w' => ∃ o, e = .returned (.tuple #[o, .int .i64 ((allV L cl).length : Int), .bool (elemsGo [] (allV L cl)).isSome]) ∧ PartsOut w' w.heap.size o (elemsGo [] (allV L cl)) ∧ Below w.heap.size w w' := fun w h => elements_any L cl v w hF (by decide) h
  have hE2 : ∀ w, Rd w 2 v L.length (prs L) → Calls Tryd.prog 41 #[v, .string ⟨#[116, 114, 97, 110, 115, 102, 101, 114, 45, 101, 110, 99, 111, 100, 105, 110, 103]⟩] w fun e w' => ∃ o, e = .returned (.tuple #[o, .int .i64 ((allV L te).length : Int), .bool (elemsGo [] (allV L te)).isSome]) ∧ PartsOut w' w.heap.size o (elemsGo [] (allV L te)) ∧ Below w.heap.size w w' := fun w h => elements_any L te v w hF (by decide) h
  have hes : ∀ name l, elemsGo [] (allV L name) = some l → (∀ x ∈ l, x.length ≤ 5000) ∧ l.length ≤ 600000 := fun name l h => ⟨elem_short hF h, elem_few hF h⟩
  have hff := frame_both (K := 4) (L := L)
  have hfc := frame_te (K := 4) (L := L)
  have hfn := frame_none (K := 4) (L := L)
  have hfl := frame_cl (K := 4) (L := L)
  have hs1 := hes cl
  have hs2 := hes te
  clear hes
  have hm1 : (allV L cl).length ≤ 100 := Nat.le_trans (allV_length L cl) hF.len
  have hm2 : (allV L te).length ≤ 100 := Nat.le_trans (allV_length L te) hF.len
  generalize frame 4 L = fr at *
  generalize allV L cl = V1 at *
  generalize allV L te = V2 at *
  obtain ⟨A, cap, rfl, hcap, -, -⟩ := id hR
  replace hE1 := Lib.hid hE1
  replace hE2 := Lib.hid hE2
  replace hs1 := Lib.hid hs1
  replace hs2 := Lib.hid hs2
  replace hR := Lib.hid (hR.below ((Below.refl w.heap.size w).alloc (Nat.le_refl _) (.cells #[.int .i64 0, .int .i64 0] 28)))
  go_enter Tryd.func28, Tryd.ntmps28
  go_wp2_with fail
  have hK := Blk.new w 28 #[.int .i64 0, .int .i64 0]
  rw [hG] at hK
  have hb0 := (Below.refl G w).alloc (by omega) (.cells #[.int .i64 0, .int .i64 0] 28)
  generalize w.alloc (.cells #[.int .i64 0, .int .i64 0] 28) = w0 at *
  refine (hE1.out _ hR.out).mono ?_
  rintro e w1 ⟨o1, rfl, hv1, hb1⟩
  have hR1 := Lib.hid (hR.out.below hb1)
  have hb01 := hb0.trans (hb1.mono (by have := hK.lt; omega))
  have hK1 := hK.below hb1
  replace hb01 := Lib.hid hb01
  replace hK1 := Lib.hid hK1
  replace hv1 := Lib.hid hv1
  clear hb1 hK hb0
  go_wp2_with fail
  refine (hE2.out _ hR1.out).mono ?_
  rintro e w2 ⟨o2, rfl, hv2, hb2⟩
  have hb02 := Lib.hid (hb01.out.trans (hb2.mono (by have := hK1.out.lt; omega)))
  have hK2 := hK1.out.below hb2
  have c0 : w2.cell? ⟨G, 0, none⟩ = some (.int .i64 0) := hK2.cell 0
  have c1 : w2.cell? ⟨G, 1, none⟩ = some (.int .i64 0) := hK2.cell 1
  have f0 := hK2.frozen 0
  have f1 := hK2.frozen 1
  have hV1 := fun l (h : elemsGo [] V1 = some l) => (Rd.own (h ▸ hv1.out : PartsOut w1 w0.heap.size o1 (some l)) : Rd w1 1 o1 l.length (strs l)).below hb2
  replace hV1 := Lib.hid hV1
  replace hv2 := Lib.hid hv2
  replace hK2 := Lib.hid hK2
  clear hb2 hK1 hb01 hv1 hR hR1
  by_cases n1 : 0 < V1.length
  · by_cases n2 : 0 < V2.length
    · have hf := Lib.hid (hff n1 n2)
      clear hff hfc hfn hfl
      go_wp2
      exact ret_blk rfl rfl rfl (hK2.out.two _ _) Tryd.underlying28 rfl (by kernel_rfl) ⟨by rw [hf.out]; rfl, two_below hG hb02.out _ _⟩
    · have hf := Lib.hid (hfl n1 n2)
      have hn0 : ((V1.length : Int) == 0) = false := beq_false_of_ne (by omega)
      clear hff hfc hfn hfl
      cases hl : elemsGo [] V1 with
      | none =>
        have hf2 : Hid (fr = ((0, 0), 30)) := Lib.hid (by rw [hf.out, hl]; rfl)
        clear hl
        go_wp2
        exact ret_blk rfl rfl rfl (hK2.out.two _ _) Tryd.underlying28 rfl (by kernel_rfl) ⟨by rw [hf2.out]; rfl, two_below hG hb02.out _ _⟩
      | some l =>
        have hRl := hV1.out l hl
        obtain ⟨hsl, hcn⟩ := hs1.out l hl
        cases l with
        | nil =>
          obtain ⟨A1, q1, rfl, -, -, -⟩ := hRl
          have hf2 : Hid (fr = ((0, 0), 30)) := Lib.hid (by rw [hf.out, hl]; rfl)
          clear hl
          go_wp2
          exact ret_blk rfl rfl rfl (hK2.out.two _ _) Tryd.underlying28 rfl (by kernel_rfl) ⟨by rw [hf2.out]; rfl, two_below hG hb02.out _ _⟩
        | cons x r =>
          have hf2 : Hid (fr = if (x :: r).all (· == x) then lengthOf x else ((0, 0), 30)) := Lib.hid (by rw [hf.out, hl, frameL_cons])
          have hx5 := hsl x (by simp)
          obtain ⟨l, hlx⟩ : ∃ l, l = x :: r := ⟨_, rfl⟩
          have hl0 : l[0]? = some x := by rw [hlx]; rfl
          have hlp : 0 < l.length := by rw [hlx]; simp
          rw [← hlx] at hRl hf2 hcn
          clear hl hsl hlx hf
          obtain ⟨A1, q1, rfl, hq1, -, hcell⟩ := hRl
          obtain ⟨b1, o3, rfl, -, x1⟩ := hcell hlp
          have d0 : w2.cell? ⟨b1, o3, none⟩ = some (.string (str x)) := by
            have := x1 0 (.string (str x)) (by unfold strs; rw [List.getElem?_map, hl0]; rfl)
            exact this
          have hlz : ((l.length : Int) == 0) = false := beq_false_of_ne (by omega)
          replace x1 := Lib.hid x1
          clear hcell hl0
          go_wp2
          go_loop [11, 67] (fun _ i => ∃ k : Nat, i = .int .i64 (k : Int) ∧ k ≤ l.length ∧ Hid ((l.take k).all (· == x) = true)) (fun _ i => l.length - (intOf i).toNat)
          case atStart => exact ⟨0, rfl, by omega, rfl⟩
          case round =>
            obtain ⟨k, rfl, hk, ha⟩ := hrel
            by_cases hlt : k < l.length
            · have d1 : w2.cell? ⟨b1, o3 + k, none⟩ = some (.string (str l[k])) := x1.out k _ (strs_at hlt)
              by_cases hx : l[k] = x
              · have hn := Lib.hid (all_eq_take hlt ha.out hx)
                have hq : ((str l[k]).toList == (str x).toList) = true := str_eq hx
                replace hx := Lib.hid hx
                go_wp2
                go_round
                case rel => exact ⟨k + 1, by go_num, by omega, hn⟩
                case measure => simp [intOf]; omega
              · have hf3 : Hid (fr = ((0, 0), 30)) := Lib.hid (by rw [hf2.out, not_all hlt hx]; rfl)
                have hq : ((str l[k]).toList == (str x).toList) = false := str_ne hx
                replace hx := Lib.hid hx
                go_wp2
                exact ret_blk rfl rfl rfl (hK2.out.two _ _) Tryd.underlying28 rfl (by kernel_rfl) ⟨by rw [hf3.out]; rfl, by first | exact two_below hG hb02.out _ _ | exact two_below' hb02.out _ _⟩
            · obtain rfl : k = l.length := by omega
              have hal := ha.out
              rw [List.take_length] at hal
              have hf3 : fr = lengthOf x := by rw [hf2.out, if_pos hal]
              have hN : ∀ w, Calls Tryd.prog 37 #[.string (str x)] w fun e w' => e = .returned (.tuple #[.int .i64 ((number x).1 : Int), .bool (decide ((number x).2 = 0))]) ∧ ∃ n, w' = w.drewN n := fun w => frnumber_any (str x) w (by rw [str_size]; unfold maxLen; omega)
              unfold lengthOf at hf3
              clear hal
              by_cases h0 : (number x).2 = 0
              · rw [decide_eq_true h0] at hN
                rw [if_pos h0] at hf3
                generalize (number x).1 = n at *
                replace h0 := Lib.hid h0
                by_cases hbig : 65536 < n
                · rw [if_pos hbig] at hf3
                  replace hf3 := Lib.hid hf3
                  replace hN := Lib.hid hN
                  go_wp2_with fail
                  refine (hN.out _).mono ?_
                  rintro e w3 ⟨rfl, nd, rfl⟩
                  go_wp2
                  exact ret_blk rfl rfl rfl ((hK2.out.drewN nd).two _ _) Tryd.underlying28 rfl (by kernel_rfl) ⟨by rw [hf3.out]; rfl, by first | exact two_below hG (below_drewN hb02.out nd) _ _ | exact two_below' (below_drewN hb02.out nd) _ _⟩
                · rw [if_neg hbig] at hf3
                  replace hf3 := Lib.hid hf3
                  replace hN := Lib.hid hN
                  go_wp2_with fail
                  refine (hN.out _).mono ?_
                  rintro e w3 ⟨rfl, nd, rfl⟩
                  go_wp2
                  exact ret_blk rfl rfl rfl ((hK2.out.drewN nd).two _ _) Tryd.underlying28 rfl (by kernel_rfl) ⟨by rw [hf3.out]; rfl, by first | exact two_below hG (below_drewN hb02.out nd) _ _ | exact two_below' (below_drewN hb02.out nd) _ _⟩
              · rw [decide_eq_false h0] at hN
                rw [if_neg h0] at hf3
                generalize (number x).1 = n at *
                replace h0 := Lib.hid h0
                replace hf3 := Lib.hid hf3
                replace hN := Lib.hid hN
                go_wp2_with fail
                refine (hN.out _).mono ?_
                rintro e w3 ⟨rfl, nd, rfl⟩
                go_wp2
                exact ret_blk rfl rfl rfl ((hK2.out.drewN nd).two _ _) Tryd.underlying28 rfl (by kernel_rfl) ⟨by rw [hf3.out]; rfl, by first | exact two_below hG (below_drewN hb02.out nd) _ _ | exact two_below' (below_drewN hb02.out nd) _ _⟩
  · by_cases n2 : 0 < V2.length
    · have hf := Lib.hid (hfc n1 n2)
      clear hff hfc hfn hfl
      cases hl : elemsGo [] V2 with
      | none =>
        have hf2 : Hid (fr = ((0, 0), 32)) := Lib.hid (by rw [hf.out, hl]; rfl)
        clear hl
        go_wp2
        exact ret_blk rfl rfl rfl (hK2.out.two _ _) Tryd.underlying28 rfl (by kernel_rfl) ⟨by rw [hf2.out]; rfl, two_below hG hb02.out _ _⟩
      | some l =>
        have hv3 := hv2.out
        rw [hl] at hv3
        have hRl : Rd w2 1 o2 l.length (strs l) := Rd.own hv3
        obtain ⟨hsl, hcn⟩ := hs2.out l hl
        clear hv3
        by_cases h1 : l.length = 1
        · obtain ⟨c, rfl⟩ := List.length_eq_one_iff.1 h1
          have hc5 := hsl c (by simp)
          obtain ⟨A1, q1, rfl, hq1, -, hcell⟩ := hRl
          obtain ⟨b1, o3, rfl, -, x1⟩ := hcell (by simp)
          have d0 : w2.cell? ⟨b1, o3, none⟩ = some (.string (str c)) := x1 0 _ rfl
          have hL : ∀ w, Calls Tryd.prog 40 #[.string (str c)] w fun e w' => e = .returned (.string (str (Syn.lower c))) ∧ Below w.heap.size w w' := fun w => frlower_any (str c) w (by rw [str_size]; omega)
          have hf2 : fr = if Syn.lower c = ch then ((3, 0), 0) else ((0, 0), 32) := by rw [hf.out, hl]; rfl
          replace hL := Lib.hid hL
          clear hl hf hcell x1 hsl
          have hone : (([c] : List Bytes).length : Int) = 1 := rfl
          by_cases hch : Syn.lower c = ch
          · rw [if_pos hch] at hf2
            have hq : ((str (Syn.lower c)).toList == [99, 104, 117, 110, 107, 101, 100]) = true := by rw [str_toList, hch]; decide
            replace hch := Lib.hid hch
            replace hf2 := Lib.hid hf2
            go_wp2_with fail
            refine (hL.out _).mono ?_
            rintro e w3 ⟨rfl, hb3⟩
            have hb03 := Lib.hid (hb02.out.trans (hb3.mono (by have := hK2.out.lt; omega)))
            have hK3 := hK2.out.below hb3
            have e0 : w3.cell? ⟨G, 0, none⟩ = some (.int .i64 0) := hK3.cell 0
            have e1 : w3.cell? ⟨G, 1, none⟩ = some (.int .i64 0) := hK3.cell 1
            have g0 := hK3.frozen 0
            have g1 := hK3.frozen 1
            replace hK3 := Lib.hid hK3
            clear hb3
            go_wp2
            exact ret_blk rfl rfl rfl (hK3.out.two _ _) Tryd.underlying28 rfl (by kernel_rfl) ⟨by rw [hf2.out]; rfl, two_below hG hb03.out _ _⟩
          · rw [if_neg hch] at hf2
            have hq : ((str (Syn.lower c)).toList == [99, 104, 117, 110, 107, 101, 100]) = false := by rw [str_toList, beq_eq_false_iff_ne]; exact hch
            replace hch := Lib.hid hch
            replace hf2 := Lib.hid hf2
            go_wp2_with fail
            refine (hL.out _).mono ?_
            rintro e w3 ⟨rfl, hb3⟩
            have hb03 := Lib.hid (hb02.out.trans (hb3.mono (by have := hK2.out.lt; omega)))
            have hK3 := hK2.out.below hb3
            have e0 : w3.cell? ⟨G, 0, none⟩ = some (.int .i64 0) := hK3.cell 0
            have e1 : w3.cell? ⟨G, 1, none⟩ = some (.int .i64 0) := hK3.cell 1
            have g0 := hK3.frozen 0
            have g1 := hK3.frozen 1
            replace hK3 := Lib.hid hK3
            clear hb3
            go_wp2
            exact ret_blk rfl rfl rfl (hK3.out.two _ _) Tryd.underlying28 rfl (by kernel_rfl) ⟨by rw [hf2.out]; rfl, two_below hG hb03.out _ _⟩
        · have hf2 : Hid (fr = ((0, 0), 32)) := Lib.hid (by rw [hf.out, hl, frameC_long h1])
          have hb1 : ((l.length : Int) == 1) = false := beq_false_of_ne (by omega)
          have hb2 : ((l.length : Int) != 1) = true := by rw [bne, hb1]; rfl
          obtain ⟨A1, q1, rfl, hq1, -, -⟩ := hRl
          clear hl hsl
          go_wp2
          exact ret_blk rfl rfl rfl (hK2.out.two _ _) Tryd.underlying28 rfl (by kernel_rfl) ⟨by rw [hf2.out]; rfl, two_below hG hb02.out _ _⟩
    · have hf := Lib.hid (hfn n1 n2)
      have hn0 : ((V1.length : Int) == 0) = true := by rw [show V1.length = 0 by omega]; rfl
      clear hff hfc hfn hfl
      go_wp2
      exact ret_blk rfl rfl rfl (hK2.out.two _ _) Tryd.underlying28 rfl (by kernel_rfl) ⟨by rw [hf.out]; rfl, two_below hG hb02.out _ _⟩
end Go.Proofs.YtodgkppjabhhlaaDoor
