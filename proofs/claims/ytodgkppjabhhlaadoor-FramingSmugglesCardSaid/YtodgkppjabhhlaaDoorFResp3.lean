/-
  Frames of responses, the document's.
-/
import Derived.Test.YtodgkppjabhhlaaDoorFResp2
namespace Go.Proofs.YtodgkppjabhhlaaDoor
open Go.RowKit Syn Fr

theorem frame_shape (L : List (Bytes × Bytes)) : (∀ K, frame K L = ((K, 0), 0)) ∨ (∃ f : Out, (∀ K, frame K L = f) ∧ ((f.2 ≠ 0 ∧ f.1 = (0, 0)) ∨ f = ((3, 0), 0) ∨ ∃ n, n ≤ 65536 ∧ f = ((2, n), 0))) := by
  by_cases n1 : 0 < (allV L cl).length
  · right
    by_cases n2 : 0 < (allV L te).length
    · exact ⟨_, fun K => frame_both n1 n2, .inl ⟨by decide, rfl⟩⟩
    · refine ⟨_, fun K => frame_cl n1 n2, ?_⟩
      match elemsGo [] (allV L cl) with
      | none => exact .inl ⟨by decide, rfl⟩
      | some [] => exact .inl ⟨by decide, rfl⟩
      | some (x :: r) =>
        rw [frameL_cons]
        split
        · unfold lengthOf
          split
          · split
            · exact .inl ⟨by decide, rfl⟩
            · exact .inr (.inr ⟨_, by omega, rfl⟩)
          · exact .inl ⟨by decide, rfl⟩
        · exact .inl ⟨by decide, rfl⟩
  · by_cases n2 : 0 < (allV L te).length
    · right
      refine ⟨_, fun K => frame_te n1 n2, ?_⟩
      match elemsGo [] (allV L te) with
      | none => exact .inl ⟨by decide, rfl⟩
      | some [] => exact .inl ⟨by decide, rfl⟩
      | some [c] =>
        by_cases hc : Syn.lower c = ch
        · exact .inr (.inl (if_pos hc))
        · rw [show frameC (some [c]) = ((0, 0), 32) from if_neg hc]
          exact .inl ⟨by decide, rfl⟩
      | some (_ :: _ :: _) => exact .inl ⟨by show (32 : Int) ≠ 0; decide, rfl⟩
    · exact .inl fun K => frame_none n1 n2
theorem frame_swap2 (L : List (Bytes × Bytes)) : (frame 4 L = ((4, 0), 0) ∧ frame 1 L = ((1, 0), 0)) ∨ ((frame 1 L).1.1 ≠ 1 ∧ frame 4 L = frame 1 L) := by
  rcases frame_shape L with h | ⟨f, h, hf⟩
  · exact .inl ⟨h 4, h 1⟩
  · right
    rw [h 4, h 1]
    refine ⟨?_, rfl⟩
    rcases hf with ⟨-, h⟩ | rfl | ⟨n, -, rfl⟩
    · rw [h]; decide
    · decide
    · show 2 ≠ 1; decide
set_option maxRecDepth 100000 in
set_option maxHeartbeats 16000000 in
theorem ref_response (L : List (Bytes × Bytes)) (mt : Bytes) (z : Int) (A : Option Addr) (cap : Nat) (w : World) (hF : Few L) (hR : Rd w 2 (.slice A L.length cap) L.length (prs L)) :
    Calls Tryd.prog 22 #[.string (str mt), .agg #[.int .i64 z, .slice A L.length cap]] w fun e w' => e = .returned (.tuple #[frameV (respF mt z (frame 4 L)), .int .i64 (respF mt z (frame 4 L)).2]) ∧ Below w.heap.size w w' := by
  obtain ⟨G, hG⟩ : ∃ G, w.heap.size = G := ⟨_, rfl⟩
  have hO := Lib.hid (fun w (h : Rd w 2 (.slice A L.length cap) L.length (prs L)) => rof_frame L _ w hF h)
  have hsw := frame_swap2 L
  generalize frame 4 L = f4 at *
  generalize frame 1 L = f1 at *
  replace hR := Lib.hid hR
  go_enter Tryd.func22, Tryd.ntmps22
  go_wp2_with fail
  have hX := (Blk.new w 53 #[.int .i64 z, .slice A L.length cap]).alloc (.cells #[.int .i64 0, .int .i64 0] 38)
  have hA := Blk.new (w.alloc (.cells #[.int .i64 z, .slice A L.length cap] 53)) 38 #[.int .i64 0, .int .i64 0]
  have hB0 := ((Below.refl w.heap.size w).alloc (Nat.le_refl _) (.cells #[.int .i64 z, .slice A L.length cap] 53)).alloc (by rw [alloc_size']; omega) (.cells #[.int .i64 0, .int .i64 0] 38)
  rw [alloc_size', hG] at hA
  rw [hG] at hX
  generalize (w.alloc (.cells #[.int .i64 z, .slice A L.length cap] 53)).alloc (.cells #[.int .i64 0, .int .i64 0] 38) = w2 at *
  have hR2 := hR.out.below hB0
  refine (hO.out _ hR2).mono ?_
  rintro e w3 ⟨rfl, hb3⟩
  have hK := hA.below hb3
  have hX3 := hX.below hb3
  have hX4 := hX3.alloc (.cells #[.int .i64 (f1.1.1 : Int), .int .i64 (f1.1.2 : Int)] 38)
  have hB3 := Below.next hB0 hB0.size hb3
  have c0 : w3.cell? ⟨G + 1, 0, none⟩ = some (.int .i64 0) := hK.cell 0
  have c1 : w3.cell? ⟨G + 1, 1, none⟩ = some (.int .i64 0) := hK.cell 1
  have g0 := hK.frozen 0
  have g1 := hK.frozen 1
  have x0 : (w3.alloc (.cells #[.int .i64 (f1.1.1 : Int), .int .i64 (f1.1.2 : Int)] 38)).cell? ⟨G, 0, none⟩ = some (.int .i64 z) := hX4.cell 0
  have hGl : G + 1 < w3.heap.size := hK.lt
  have hwl := hB3.size
  replace hK := Lib.hid hK
  replace hB3 := Lib.hid hB3
  replace hsw := Lib.hid hsw
  clear hb3 hR2 hA hB0 hX hX3 hX4
  rw [show frameV f1 = .agg #[.int .i64 (f1.1.1 : Int), .int .i64 (f1.1.2 : Int)] from rfl]
  by_cases he : f1.2 = 0
  · rw [he]
    have he4 : f4.2 = 0 := by
      rcases hsw.out with ⟨h, -⟩ | ⟨-, h⟩
      · rw [h]
      · rw [h]; exact he
    replace he := Lib.hid he
    by_cases hH : mt = [72, 69, 65, 68]
    · have hq : ((str mt).toList == [72, 69, 65, 68]) = true := by rw [str_toList, hH]; decide
      have hres := Lib.hid (show respF mt z f4 = ((1, 0), 0) by unfold respF; rw [if_neg (by omega), if_pos (.inl hH)])
      replace hH := Lib.hid hH
      go_wp2
      exact ret_blk rfl rfl rfl ((hK.out.two _ _).alloc _) Tryd.underlying38 rfl (by kernel_rfl) ⟨by first | rfl | (rw [hres.out]; rfl), by first | exact two_alloc hG hB3.out hwl _ _ _ | exact two_alloc' hG hB3.out hwl _ _ _⟩
    · have hq : ((str mt).toList == [72, 69, 65, 68]) = false := by rw [str_toList, beq_eq_false_iff_ne]; exact hH
      by_cases h1 : 100 ≤ z
      · by_cases h2 : z ≤ 199
        · have hres := Lib.hid (show respF mt z f4 = ((1, 0), 0) by unfold respF; rw [if_neg (by omega), if_pos (.inr (.inl ⟨h1, h2⟩))])
          replace hH := Lib.hid hH
          go_wp2
          exact ret_blk rfl rfl rfl ((hK.out.two _ _).alloc _) Tryd.underlying38 rfl (by kernel_rfl) ⟨by first | rfl | (rw [hres.out]; rfl), by first | exact two_alloc hG hB3.out hwl _ _ _ | exact two_alloc' hG hB3.out hwl _ _ _⟩
        · by_cases h3 : z = 204
          · have hres := Lib.hid (show respF mt z f4 = ((1, 0), 0) by unfold respF; rw [if_neg (by omega), if_pos (.inr (.inr (.inl h3)))])
            have hz3 : (z == 204) = true := by rw [h3]; rfl
            replace hH := Lib.hid hH
            replace h3 := Lib.hid h3
            go_wp2
            exact ret_blk rfl rfl rfl ((hK.out.two _ _).alloc _) Tryd.underlying38 rfl (by kernel_rfl) ⟨by first | rfl | (rw [hres.out]; rfl), by first | exact two_alloc hG hB3.out hwl _ _ _ | exact two_alloc' hG hB3.out hwl _ _ _⟩
          · have hz3 : (z == 204) = false := beq_false_of_ne h3
            by_cases h5 : z = 304
            · have hres := Lib.hid (show respF mt z f4 = ((1, 0), 0) by unfold respF; rw [if_neg (by omega), if_pos (.inr (.inr (.inr h5)))])
              have hz5 : (z == 304) = true := by rw [h5]; rfl
              replace hH := Lib.hid hH
              replace h3 := Lib.hid h3
              replace h5 := Lib.hid h5
              go_wp2
              exact ret_blk rfl rfl rfl ((hK.out.two _ _).alloc _) Tryd.underlying38 rfl (by kernel_rfl) ⟨by first | rfl | (rw [hres.out]; rfl), by first | exact two_alloc hG hB3.out hwl _ _ _ | exact two_alloc' hG hB3.out hwl _ _ _⟩
            · have hz5 : (z == 304) = false := beq_false_of_ne h5
              have hn := Lib.hid (show ¬(mt = [72, 69, 65, 68] ∨ (100 ≤ z ∧ z ≤ 199) ∨ z = 204 ∨ z = 304) by rintro (h | h | h | h); exact hH h; exact h2 h.2; exact h3 h; exact h5 h)
              replace hH := Lib.hid hH
              replace h3 := Lib.hid h3
              replace h5 := Lib.hid h5
              rcases hsw.out with ⟨e4, e1⟩ | ⟨hk, e4⟩
              · have hres := Lib.hid (show respF mt z f4 = ((4, 0), 0) by unfold respF; rw [if_neg (by omega), if_neg hn.out, e4])
                have hk1 : ((f1.1.1 : Int) == 1) = true := by rw [e1]; rfl
                replace e4 := Lib.hid e4
                replace e1 := Lib.hid e1
                go_wp2
                exact ret_blk rfl rfl rfl ((hK.out.two _ _).alloc _) Tryd.underlying38 rfl (by kernel_rfl) ⟨by first | rfl | (rw [hres.out]; rfl), by first | exact two_alloc hG hB3.out hwl _ _ _ | exact two_alloc' hG hB3.out hwl _ _ _⟩
              · have hres := Lib.hid (show respF mt z f4 = f1 by unfold respF; rw [if_neg (by omega), if_neg hn.out, e4])
                have hk1 : ((f1.1.1 : Int) == 1) = false := beq_false_of_ne (by omega)
                replace e4 := Lib.hid e4
                go_wp2
                exact ret_blk rfl rfl rfl ((hK.out.two _ _).alloc _) Tryd.underlying38 rfl (by kernel_rfl) ⟨by rw [hres.out, he.out]; rfl, by first | exact two_alloc hG hB3.out hwl _ _ _ | exact two_alloc' hG hB3.out hwl _ _ _⟩
      · have h3 : z ≠ 204 := by omega
        have h5 : z ≠ 304 := by omega
        have hz3 : (z == 204) = false := beq_false_of_ne h3
        have hz5 : (z == 304) = false := beq_false_of_ne h5
        have hn := Lib.hid (show ¬(mt = [72, 69, 65, 68] ∨ (100 ≤ z ∧ z ≤ 199) ∨ z = 204 ∨ z = 304) by rintro (h | h | h | h); exact hH h; exact h1 h.1; exact h3 h; exact h5 h)
        replace hH := Lib.hid hH
        replace h3 := Lib.hid h3
        replace h5 := Lib.hid h5
        rcases hsw.out with ⟨e4, e1⟩ | ⟨hk, e4⟩
        · have hres := Lib.hid (show respF mt z f4 = ((4, 0), 0) by unfold respF; rw [if_neg (by omega), if_neg hn.out, e4])
          have hk1 : ((f1.1.1 : Int) == 1) = true := by rw [e1]; rfl
          replace e4 := Lib.hid e4
          replace e1 := Lib.hid e1
          go_wp2
          exact ret_blk rfl rfl rfl ((hK.out.two _ _).alloc _) Tryd.underlying38 rfl (by kernel_rfl) ⟨by first | rfl | (rw [hres.out]; rfl), by first | exact two_alloc hG hB3.out hwl _ _ _ | exact two_alloc' hG hB3.out hwl _ _ _⟩
        · have hres := Lib.hid (show respF mt z f4 = f1 by unfold respF; rw [if_neg (by omega), if_neg hn.out, e4])
          have hk1 : ((f1.1.1 : Int) == 1) = false := beq_false_of_ne (by omega)
          replace e4 := Lib.hid e4
          go_wp2
          exact ret_blk rfl rfl rfl ((hK.out.two _ _).alloc _) Tryd.underlying38 rfl (by kernel_rfl) ⟨by rw [hres.out, he.out]; rfl, by first | exact two_alloc hG hB3.out hwl _ _ _ | exact two_alloc' hG hB3.out hwl _ _ _⟩
  · have hbe : f4.2 = f1.2 := by
      rcases hsw.out with ⟨-, h⟩ | ⟨-, h⟩
      · rw [h] at he; exact absurd rfl he
      · rw [h]
    have hres := Lib.hid (show respF mt z f4 = ((0, 0), f1.2) by unfold respF; rw [hbe, if_pos he])
    have hne : (f1.2 == 0) = false := beq_false_of_ne he
    have hne2 : (f1.2 != 0) = true := by rw [bne, hne]; rfl
    replace he := Lib.hid he
    replace hbe := Lib.hid hbe
    go_wp2
    exact ret_blk rfl rfl rfl ((hK.out.two _ _).alloc _) Tryd.underlying38 rfl (by kernel_rfl) ⟨by rw [hres.out]; rfl, by first | exact two_alloc hG hB3.out hwl _ _ _ | exact two_alloc' hG hB3.out hwl _ _ _⟩
end Go.Proofs.YtodgkppjabhhlaaDoor
