/-
  Frames of responses.
-/
import Derived.Test.YtodgkppjabhhlaaDoorFReq2
namespace Go.Proofs.YtodgkppjabhhlaaDoor
open Go.RowKit Syn Fr

/-- The frame of a response: f4 is the fields' frame (4 for none). -/
def respF (mt : Bytes) (z : Int) (f4 : Out) : Out :=
  if f4.2 ≠ 0 then ((0, 0), f4.2) else if mt = [72, 69, 65, 68] ∨ (100 ≤ z ∧ z ≤ 199) ∨ z = 204 ∨ z = 304 then ((1, 0), 0) else f4
set_option maxRecDepth 100000 in
set_option maxHeartbeats 16000000 in
theorem of_response (L : List (Bytes × Bytes)) (mt : Bytes) (z : Int) (A : Option Addr) (cap : Nat) (w : World) (hF : Few L) (hR : Rd w 2 (.slice A L.length cap) L.length (prs L)) :
    Calls Tryd.prog 20 #[.string (str mt), .agg #[.int .i64 z, .slice A L.length cap]] w fun e w' => e = .returned (.tuple #[frameV (respF mt z (frame 4 L)), errV (respF mt z (frame 4 L)).2]) ∧ Below w.heap.size w w' := by
  obtain ⟨G, hG⟩ : ∃ G, w.heap.size = G := ⟨_, rfl⟩
  have hO := Lib.hid (fun w (h : Rd w 2 (.slice A L.length cap) L.length (prs L)) => of_frame L _ w hF h)
  generalize frame 4 L = f4 at *
  replace hR := Lib.hid hR
  go_enter Tryd.func20, Tryd.ntmps20
  go_wp2_with fail
  have hX := (Blk.new w 56 #[.int .i64 z, .slice A L.length cap]).alloc (.cells #[.int .i64 0, .int .i64 0] 28)
  have hA := Blk.new (w.alloc (.cells #[.int .i64 z, .slice A L.length cap] 56)) 28 #[.int .i64 0, .int .i64 0]
  have hB0 := ((Below.refl w.heap.size w).alloc (Nat.le_refl _) (.cells #[.int .i64 z, .slice A L.length cap] 56)).alloc (by rw [alloc_size']; omega) (.cells #[.int .i64 0, .int .i64 0] 28)
  rw [alloc_size', hG] at hA
  rw [hG] at hX
  generalize (w.alloc (.cells #[.int .i64 z, .slice A L.length cap] 56)).alloc (.cells #[.int .i64 0, .int .i64 0] 28) = w2 at *
  have hR2 := hR.out.below hB0
  refine (hO.out _ hR2).mono ?_
  rintro e w3 ⟨rfl, hb3⟩
  have hK := hA.below hb3
  have hX3 := hX.below hb3
  have hX4 := hX3.alloc (.cells #[.int .i64 (f4.1.1 : Int), .int .i64 (f4.1.2 : Int)] 28)
  have hB3 := Below.next hB0 hB0.size hb3
  have c0 : w3.cell? ⟨G + 1, 0, none⟩ = some (.int .i64 0) := hK.cell 0
  have c1 : w3.cell? ⟨G + 1, 1, none⟩ = some (.int .i64 0) := hK.cell 1
  have g0 := hK.frozen 0
  have g1 := hK.frozen 1
  have x0 : (w3.alloc (.cells #[.int .i64 (f4.1.1 : Int), .int .i64 (f4.1.2 : Int)] 28)).cell? ⟨G, 0, none⟩ = some (.int .i64 z) := hX4.cell 0
  have hGl : G + 1 < w3.heap.size := hK.lt
  have hwl := hB3.size
  replace hK := Lib.hid hK
  replace hB3 := Lib.hid hB3
  clear hb3 hR2 hA hB0 hX hX3 hX4
  rw [show frameV f4 = .agg #[.int .i64 (f4.1.1 : Int), .int .i64 (f4.1.2 : Int)] from rfl]
  by_cases he : f4.2 = 0
  · rw [he, show errV 0 = .nilIface from rfl]
    by_cases hH : mt = [72, 69, 65, 68]
    · have hq : ((str mt).toList == [72, 69, 65, 68]) = true := by rw [str_toList, hH]; decide
      have hres := Lib.hid (show respF mt z f4 = ((1, 0), 0) by unfold respF; rw [if_neg (by omega), if_pos (.inl hH)])
      replace hH := Lib.hid hH
      go_wp2
      exact ret_blk rfl rfl rfl ((hK.out.two _ _).alloc _) Tryd.underlying28 rfl (by kernel_rfl) ⟨by first | rfl | (rw [hres.out]; rfl), by first | exact two_alloc hG hB3.out hwl _ _ _ | exact two_alloc' hG hB3.out hwl _ _ _⟩
    · have hq : ((str mt).toList == [72, 69, 65, 68]) = false := by rw [str_toList, beq_eq_false_iff_ne]; exact hH
      by_cases h1 : 100 ≤ z
      · by_cases h2 : z ≤ 199
        · have hres := Lib.hid (show respF mt z f4 = ((1, 0), 0) by unfold respF; rw [if_neg (by omega), if_pos (.inr (.inl ⟨h1, h2⟩))])
          replace hH := Lib.hid hH
          go_wp2
          exact ret_blk rfl rfl rfl ((hK.out.two _ _).alloc _) Tryd.underlying28 rfl (by kernel_rfl) ⟨by first | rfl | (rw [hres.out]; rfl), by first | exact two_alloc hG hB3.out hwl _ _ _ | exact two_alloc' hG hB3.out hwl _ _ _⟩
        · by_cases h3 : z = 204
          · have hres := Lib.hid (show respF mt z f4 = ((1, 0), 0) by unfold respF; rw [if_neg (by omega), if_pos (.inr (.inr (.inl h3)))])
            have hz3 : (z == 204) = true := by rw [h3]; rfl
            replace hH := Lib.hid hH
            replace h3 := Lib.hid h3
            go_wp2
            exact ret_blk rfl rfl rfl ((hK.out.two _ _).alloc _) Tryd.underlying28 rfl (by kernel_rfl) ⟨by first | rfl | (rw [hres.out]; rfl), by first | exact two_alloc hG hB3.out hwl _ _ _ | exact two_alloc' hG hB3.out hwl _ _ _⟩
          · have hz3 : (z == 204) = false := beq_false_of_ne h3
            by_cases h5 : z = 304
            · have hres := Lib.hid (show respF mt z f4 = ((1, 0), 0) by unfold respF; rw [if_neg (by omega), if_pos (.inr (.inr (.inr h5)))])
              have hz5 : (z == 304) = true := by rw [h5]; rfl
              replace hH := Lib.hid hH
              replace h3 := Lib.hid h3
              replace h5 := Lib.hid h5
              go_wp2
              exact ret_blk rfl rfl rfl ((hK.out.two _ _).alloc _) Tryd.underlying28 rfl (by kernel_rfl) ⟨by first | rfl | (rw [hres.out]; rfl), by first | exact two_alloc hG hB3.out hwl _ _ _ | exact two_alloc' hG hB3.out hwl _ _ _⟩
            · have hz5 : (z == 304) = false := beq_false_of_ne h5
              have hres := Lib.hid (show respF mt z f4 = f4 by unfold respF; rw [if_neg (by omega), if_neg (by rintro (h | h | h | h); exact hH h; exact h2 h.2; exact h3 h; exact h5 h)])
              replace hH := Lib.hid hH
              replace h3 := Lib.hid h3
              replace h5 := Lib.hid h5
              (go_wp2; exact ret_blk rfl rfl rfl ((hK.out.two _ _).alloc _) Tryd.underlying28 rfl (by kernel_rfl) ⟨by rw [hres.out, he]; rfl, by first | exact two_alloc hG hB3.out hwl _ _ _ | exact two_alloc' hG hB3.out hwl _ _ _⟩)
      · have h3 : z ≠ 204 := by omega
        have h5 : z ≠ 304 := by omega
        have hz3 : (z == 204) = false := beq_false_of_ne h3
        have hz5 : (z == 304) = false := beq_false_of_ne h5
        have hres := Lib.hid (show respF mt z f4 = f4 by unfold respF; rw [if_neg (by omega), if_neg (by rintro (h | h | h | h); exact hH h; exact h1 h.1; exact h3 h; exact h5 h)])
        replace hH := Lib.hid hH
        replace h3 := Lib.hid h3
        replace h5 := Lib.hid h5
        (go_wp2; exact ret_blk rfl rfl rfl ((hK.out.two _ _).alloc _) Tryd.underlying28 rfl (by kernel_rfl) ⟨by rw [hres.out, he]; rfl, by first | exact two_alloc hG hB3.out hwl _ _ _ | exact two_alloc' hG hB3.out hwl _ _ _⟩)
  · have hres := Lib.hid (show respF mt z f4 = ((0, 0), f4.2) by unfold respF; rw [if_pos he])
    have hev : ∃ n : Int, errV f4.2 = .iface 50 (.int .i64 n) := ⟨f4.2, by unfold errV; rw [if_neg he]⟩
    obtain ⟨n, hev⟩ := hev
    have hev2 := Lib.hid hev
    rw [hev]
    clear hev
    go_wp2
    exact ret_blk rfl rfl rfl ((hK.out.two _ _).alloc _) Tryd.underlying28 rfl (by kernel_rfl) ⟨by rw [hres.out, hev2.out]; rfl, by first | exact two_alloc hG hB3.out hwl _ _ _ | exact two_alloc' hG hB3.out hwl _ _ _⟩
end Go.Proofs.YtodgkppjabhhlaaDoor
