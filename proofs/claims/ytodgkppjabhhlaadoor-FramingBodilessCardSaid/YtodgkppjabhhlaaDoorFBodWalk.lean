/-
  The walk of FramingBodiless.
-/
import Derived.Test.YtodgkppjabhhlaaDoorFReqWalk
import Derived.Test.YtodgkppjabhhlaaDoorFResp
import Derived.Test.YtodgkppjabhhlaaDoorFResp3
namespace Go.Proofs.YtodgkppjabhhlaaDoor
open Go.RowKit Syn Fr

/-- No body, by the method and the status. -/
abbrev Bare (mt : Bytes) (z : Int) : Prop := mt = [72, 69, 65, 68] ∨ (100 ≤ z ∧ z ≤ 199) ∨ z = 204 ∨ z = 304
/-- What the answers of OfResponse are like. -/
abbrev Like (mt : Bytes) (z a b : Int) (ev : Value) : Prop :=
  (a = 0 ∧ b = 0 ∧ ∃ c : Int, ev = .iface 50 (.int .i64 c)) ∨ (ev = .nilIface ∧ ((Bare mt z ∧ a = 1 ∧ b = 0) ∨ (¬Bare mt z ∧ (a = 2 ∨ ((a = 3 ∨ a = 4) ∧ b = 0)))))
theorem resp_like (L : List (Bytes × Bytes)) (mt : Bytes) (z : Int) : Like mt z ((respF mt z (frame 4 L)).1.1 : Int) ((respF mt z (frame 4 L)).1.2 : Int) (errV (respF mt z (frame 4 L)).2) := by
  have key : ∀ f : Out, ((f.2 ≠ 0 ∧ f.1 = (0, 0)) ∨ f = ((4, 0), 0) ∨ f = ((3, 0), 0) ∨ ∃ n, n ≤ 65536 ∧ f = ((2, n), 0)) → Like mt z ((respF mt z f).1.1 : Int) ((respF mt z f).1.2 : Int) (errV (respF mt z f).2) := by
    intro f hf
    by_cases h0 : f.2 = 0
    · by_cases hb : Bare mt z
      · have e : respF mt z f = ((1, 0), 0) := by unfold respF; rw [if_neg (by omega), if_pos hb]
        rw [e]; exact .inr ⟨rfl, .inl ⟨hb, rfl, rfl⟩⟩
      · have e : respF mt z f = f := by unfold respF; rw [if_neg (by omega), if_neg hb]
        rw [e]
        rcases hf with ⟨h, -⟩ | rfl | rfl | ⟨n, -, rfl⟩
        · exact absurd h0 h
        · exact .inr ⟨rfl, .inr ⟨hb, .inr ⟨.inr rfl, rfl⟩⟩⟩
        · exact .inr ⟨rfl, .inr ⟨hb, .inr ⟨.inl rfl, rfl⟩⟩⟩
        · exact .inr ⟨rfl, .inr ⟨hb, .inl rfl⟩⟩
    · have e : respF mt z f = ((0, 0), f.2) := by unfold respF; rw [if_pos h0]
      rw [e]
      exact .inl ⟨rfl, rfl, f.2, by unfold errV; rw [if_neg h0]⟩
  refine key _ ?_
  rcases frame_shape L with h | ⟨f, h, hf⟩
  · rw [h 4]; exact .inr (.inl rfl)
  · rw [h 4]
    rcases hf with h | h | h
    · exact .inl h
    · exact .inr (.inr (.inl h))
    · exact .inr (.inr (.inr h))
theorem wrap_one : (wrap64 1 == 1) = true := by unfold wrap64; decide
theorem quo_not {z : Int} (hz : (Lit.int .i64 z).wf = true) (h : ¬(100 ≤ z ∧ z ≤ 199)) : (wrap64 (z.tdiv 100) == 1) = false := by
  have hz' : -9223372036854775808 ≤ z ∧ z ≤ 9223372036854775807 := by
    unfold Lit.wf at hz
    rw [Bool.and_eq_true, decide_eq_true_eq, decide_eq_true_eq] at hz
    exact hz
  refine beq_false_of_ne fun e => h ?_
  rcases Decidable.em (0 ≤ z) with h0 | h0
  · rw [Int.tdiv_eq_ediv_of_nonneg h0] at e
    unfold wrap64 at e; omega
  · have h1 : z = -(-z) := by omega
    rw [h1, Int.neg_tdiv, Int.tdiv_eq_ediv_of_nonneg (by omega)] at e
    unfold wrap64 at e; omega
set_option maxRecDepth 100000 in
set_option maxHeartbeats 16000000 in
theorem bodiless_walk (L : List (Bytes × Bytes)) (mt : Bytes) (s : ByteArray) (z : Int) (v : Value) (w : World) (ha : str mt = s) (hR : Rd w 2 v L.length (prs L)) (hbig : ∀ p ∈ L, p.1.length ≤ 140737488355328 ∧ p.2.length ≤ 140737488355328) (hlm : L.length ≤ 140737488355328) (hz : (Lit.int .i64 z).wf = true) :
    Calls Tryd.prog 6 #[.string s, .agg #[.int .i64 z, v]] w fun e w' => e = .returned (.bool true) ∧ Below w.heap.size w w' := by
  subst ha
  obtain ⟨A, cap, rfl, hcap, -, -⟩ := id hR
  obtain ⟨G, hG⟩ : ∃ G, w.heap.size = G := ⟨_, rfl⟩
  have hFt := Lib.hid (fun w (h : Rd w 2 (.slice A L.length cap) L.length (prs L)) => fits_any L _ w h hbig hlm)
  replace hR := Lib.hid hR
  replace hbig := Lib.hid hbig
  go_enter Tryd.func6, Tryd.ntmps6
  go_wp2_with fail
  have hA := Blk.new w 53 #[.int .i64 z, .slice A L.length cap]
  have hB0 := (Below.refl w.heap.size w).alloc (Nat.le_refl _) (.cells #[.int .i64 z, .slice A L.length cap] 53)
  rw [hG] at hA
  generalize w.alloc (.cells #[.int .i64 z, .slice A L.length cap] 53) = w0 at *
  refine (fawake_any _).mono ?_
  rintro e w1 ⟨rfl, hb1⟩
  have hA1 := hA.below hb1
  have hR1 := Lib.hid (hR.out.below (hB0.trans (hb1.mono hB0.size)))
  have hB1 := Lib.hid (Below.next hB0 hB0.size hb1)
  have c0 : w1.cell? ⟨G, 0, none⟩ = some (.int .i64 z) := hA1.cell 0
  have c1 : w1.cell? ⟨G, 1, none⟩ = some (.slice A L.length cap) := hA1.cell 1
  replace hA1 := Lib.hid hA1
  clear hb1 hA hB0
  go_wp2_with fail
  refine (hFt.out _ hR1.out).mono ?_
  rintro e w2 ⟨b, rfl, hfew, nd, rfl⟩
  cases b
  · clear hfew
    go_wp2_with fail
    refine (fawake_any _).mono ?_
    rintro e w3 ⟨rfl, hb3⟩
    have hB3 := Lib.hid (Below.next (below_drewN hB1.out nd) hB1.out.size hb3)
    clear hb3
    go_wp2
    go_ret
    exact ⟨rfl, hB3.out⟩
  · have hF := Lib.hid (hfew rfl)
    have hl : L.length ≤ 100 := hF.out.len
    have hRq := Lib.hid (fun w h => response_any L z (.slice A L.length cap) w hl h)
    have hlike := resp_like L mt z
    have hOf := Lib.hid (fun w B cap' h => of_response L mt z B cap' w hF.out h)
    rw [show frameV (respF mt z (frame 4 L)) = .agg #[.int .i64 ((respF mt z (frame 4 L)).1.1 : Int), .int .i64 ((respF mt z (frame 4 L)).1.2 : Int)] from rfl] at hOf
    clear hfew
    generalize ((respF mt z (frame 4 L)).1.1 : Int) = a at *
    generalize ((respF mt z (frame 4 L)).1.2 : Int) = b at *
    generalize errV (respF mt z (frame 4 L)).2 = ev at *
    replace hlike := Lib.hid hlike
    go_wp2_with fail
    refine (hRq.out _ (hR1.out.drewN nd)).mono ?_
    rintro e w3 ⟨o, rfl, hR3, hb3⟩
    obtain ⟨B, cap', rfl, -, -, -⟩ := id hR3
    have hb3' : Below w1.heap.size w1 w3 := ⟨hb3.os, hb3.tape, hb3.output, hb3.size, hb3.block⟩
    have hA3 := (hA1.out.below hb3').alloc (.cells #[.int .i64 z, .slice B L.length cap'] 56)
    have hB3 := Below.next hB1.out hB1.out.size hb3'
    have hB3' := hB3.alloc hB3.size (.cells #[.int .i64 z, .slice B L.length cap'] 56)
    have hR3' := hR3.below ((Below.refl w3.heap.size w3).alloc (Nat.le_refl _) (.cells #[.int .i64 z, .slice B L.length cap'] 56))
    clear hb3 hb3' c0 c1 hA1
    replace hA3 := Lib.hid hA3
    replace hB3 := Lib.hid hB3
    replace hB3' := Lib.hid hB3'
    replace hR3' := Lib.hid hR3'
    go_wp2_with fail
    refine (hOf.out _ _ _ hR3'.out).mono ?_
    rintro e w4 ⟨rfl, hb4⟩
    have hA4 := (hA3.out.below hb4).alloc (.cells #[.int .i64 a, .int .i64 b] 28)
    have d0 : (w4.alloc (.cells #[.int .i64 a, .int .i64 b] 28)).cell? ⟨G, 0, none⟩ = some (.int .i64 z) := hA4.cell 0
    have hB4 := Below.next hB3'.out hB3'.out.size hb4
    have hB5 := Lib.hid (hB4.alloc hB4.size (.cells #[.int .i64 a, .int .i64 b] 28))
    clear hb4 hA3 hA4 hB3 hB3' hB4 hR3 hR3' hRq hOf hFt
    rcases hlike.out with ⟨ha, hb, c, he⟩ | ⟨he, hlk⟩
    · clear hlike
      subst ha
      subst hb
      subst he
      go_wp2
      go_ret
      exact ⟨rfl, hB5.out⟩
    · clear hlike
      subst he
      rcases hlk with ⟨hbare, ha, hb⟩ | ⟨hbare, hab⟩
      · subst ha
        subst hb
        by_cases hH : mt = [72, 69, 65, 68]
        · have hq : ((str mt).toList == [72, 69, 65, 68]) = true := by rw [str_toList, hH]; decide
          replace hH := Lib.hid hH
          replace hbare := Lib.hid hbare
          go_wp2
          go_ret
          exact ⟨rfl, hB5.out⟩
        · have hq : ((str mt).toList == [72, 69, 65, 68]) = false := by rw [str_toList, beq_eq_false_iff_ne]; exact hH
          rcases hbare with h | h | h | h
          · exact absurd h hH
          · have hd : (wrap64 (z.tdiv 100) == 1) = true := by
              have : z.tdiv 100 = 1 := by rw [Int.tdiv_eq_ediv_of_nonneg (by omega)]; omega
              rw [this]; exact wrap_one
            replace hH := Lib.hid hH
            go_wp2
            go_ret
            exact ⟨rfl, hB5.out⟩
          · subst h
            replace hH := Lib.hid hH
            go_wp2
            go_ret
            exact ⟨rfl, hB5.out⟩
          · subst h
            replace hH := Lib.hid hH
            go_wp2
            go_ret
            exact ⟨rfl, hB5.out⟩
      · have hH : mt ≠ [72, 69, 65, 68] := fun h => hbare (.inl h)
        have hq : ((str mt).toList == [72, 69, 65, 68]) = false := by rw [str_toList, beq_eq_false_iff_ne]; exact hH
        have hd : (wrap64 (z.tdiv 100) == 1) = false := quo_not hz fun h => hbare (.inr (.inl h))
        have hz2 : (z == 204) = false := beq_false_of_ne fun h => hbare (.inr (.inr (.inl h)))
        have hz3 : (z == 304) = false := beq_false_of_ne fun h => hbare (.inr (.inr (.inr h)))
        replace hH := Lib.hid hH
        replace hbare := Lib.hid hbare
        rcases hab with ha | ⟨ha | ha, hb⟩
        · subst ha
          go_wp2
          go_ret
          exact ⟨rfl, hB5.out⟩
        · subst ha
          subst hb
          go_wp2
          go_ret
          exact ⟨rfl, hB5.out⟩
        · subst ha
          subst hb
          go_wp2
          go_ret
          exact ⟨rfl, hB5.out⟩
end Go.Proofs.YtodgkppjabhhlaaDoor
