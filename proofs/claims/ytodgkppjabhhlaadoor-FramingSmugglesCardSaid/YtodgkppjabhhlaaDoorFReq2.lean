/-
  Frames of requests, and the law's helpers.
-/
import Derived.Test.YtodgkppjabhhlaaDoorFROf
namespace Go.Proofs.YtodgkppjabhhlaaDoor
open Go.RowKit Syn Fr

set_option maxHeartbeats 2000000 in
theorem ref_request (L : List (Bytes × Bytes)) (m t : ByteArray) (A : Option Addr) (cap : Nat) (w : World) (hF : Few L) (hR : Rd w 2 (.slice A L.length cap) L.length (prs L)) :
    Calls Tryd.prog 15 #[.agg #[.string m, .string t, .slice A L.length cap]] w fun e w' => e = .returned (.tuple #[frameV (frame 1 L), .int .i64 (frame 1 L).2]) ∧ Below w.heap.size w w' := by
  obtain ⟨G, hG⟩ : ∃ G, w.heap.size = G := ⟨_, rfl⟩
  have hO := Lib.hid (fun w (h : Rd w 2 (.slice A L.length cap) L.length (prs L)) => rof_frame L _ w hF h)
  generalize frame 1 L = fr at *
  replace hR := Lib.hid hR
  go_enter Tryd.func15, Tryd.ntmps15
  go_wp2_with fail
  have hA := Blk.new (w.alloc (.cells #[.string m, .string t, .slice A L.length cap] 24)) 38 #[.int .i64 0, .int .i64 0]
  have hB0 := ((Below.refl w.heap.size w).alloc (Nat.le_refl _) (.cells #[.string m, .string t, .slice A L.length cap] 24)).alloc (by rw [alloc_size']; omega) (.cells #[.int .i64 0, .int .i64 0] 38)
  rw [alloc_size', hG] at hA
  generalize (w.alloc (.cells #[.string m, .string t, .slice A L.length cap] 24)).alloc (.cells #[.int .i64 0, .int .i64 0] 38) = w2 at *
  have hR2 := hR.out.below hB0
  refine (hO.out _ hR2).mono ?_
  rintro e w3 ⟨rfl, hb3⟩
  have hK := hA.below hb3
  have hB3 := Below.next hB0 hB0.size hb3
  have c0 : w3.cell? ⟨G + 1, 0, none⟩ = some (.int .i64 0) := hK.cell 0
  have c1 : w3.cell? ⟨G + 1, 1, none⟩ = some (.int .i64 0) := hK.cell 1
  have f0 := hK.frozen 0
  have f1 := hK.frozen 1
  replace hK := Lib.hid hK
  replace hB3 := Lib.hid hB3
  clear hb3 hR2 hA hB0
  rw [show frameV fr = .agg #[.int .i64 (fr.1.1 : Int), .int .i64 (fr.1.2 : Int)] from rfl]
  go_wp2
  exact ret_blk rfl rfl rfl (hK.out.two _ _) Tryd.underlying38 rfl (by kernel_rfl) ⟨rfl, (hB3.out.setCell (p := ⟨G + 1, 0, none⟩) (by show _ ≤ G + 1; omega) _).setCell (p := ⟨G + 1, 1, none⟩) (by show _ ≤ G + 1; omega) _⟩
theorem frame_swap (L : List (Bytes × Bytes)) : (frame 4 L = ((4, 0), 0) ∧ frame 1 L = ((1, 0), 0)) ∨ ((frame 4 L).1.1 ≠ 4 ∧ frame 1 L = frame 4 L) := by
  by_cases n1 : 0 < (allV L cl).length
  · by_cases n2 : 0 < (allV L te).length
    · right; rw [frame_both n1 n2, frame_both n1 n2]; exact ⟨by decide, rfl⟩
    · right
      rw [frame_cl n1 n2, frame_cl n1 n2]
      refine ⟨?_, rfl⟩
      match elemsGo [] (allV L cl) with
      | none => decide
      | some [] => decide
      | some (x :: r) =>
        rw [frameL_cons]
        split
        · unfold lengthOf
          split
          · split
            · decide
            · show (2 : Nat) ≠ 4; decide
          · decide
        · decide
  · by_cases n2 : 0 < (allV L te).length
    · right
      rw [frame_te n1 n2, frame_te n1 n2]
      refine ⟨?_, rfl⟩
      match elemsGo [] (allV L te) with
      | none => decide
      | some [] => decide
      | some [c] =>
        show (if Syn.lower c = ch then (((3, 0), 0) : Out) else ((0, 0), 32)).1.1 ≠ 4
        split
        · show (3 : Nat) ≠ 4; decide
        · show (0 : Nat) ≠ 4; decide
      | some (_ :: _ :: _) => show (0 : Nat) ≠ 4; decide
    · left; rw [frame_none n1 n2, frame_none n1 n2]; exact ⟨rfl, rfl⟩
theorem two_alloc {w w1 : World} {G : Nat} (hG : w.heap.size = G) (h : Below w.heap.size w w1) (hl : w.heap.size ≤ w1.heap.size) (a b : Value) (o : Obj) : Below w.heap.size w (((w1.setCell ⟨G + 1, 0, none⟩ a).setCell ⟨G + 1, 1, none⟩ b).alloc o) :=
  ((h.setCell (p := ⟨G + 1, 0, none⟩) (by show _ ≤ G + 1; omega) a).setCell (p := ⟨G + 1, 1, none⟩) (by show _ ≤ G + 1; omega) b).alloc (by rw [size_setCell, size_setCell]; exact hl) o
theorem two_alloc' {w w1 : World} {G : Nat} (hG : w.heap.size = G) (h : Below w.heap.size w w1) (hl : w.heap.size ≤ w1.heap.size) (a b : Value) (o : Obj) : Below G w (((w1.setCell ⟨G + 1, 0, none⟩ a).setCell ⟨G + 1, 1, none⟩ b).alloc o) := by
  have := two_alloc hG h hl a b o
  rwa [hG] at this
set_option maxHeartbeats 4000000 in
theorem of_request (L : List (Bytes × Bytes)) (m t : ByteArray) (A : Option Addr) (cap : Nat) (w : World) (hF : Few L) (hR : Rd w 2 (.slice A L.length cap) L.length (prs L)) :
    Calls Tryd.prog 13 #[.agg #[.string m, .string t, .slice A L.length cap]] w fun e w' => e = .returned (.tuple #[frameV (frame 1 L), errV (frame 1 L).2]) ∧ Below w.heap.size w w' := by
  obtain ⟨G, hG⟩ : ∃ G, w.heap.size = G := ⟨_, rfl⟩
  have hO := Lib.hid (fun w (h : Rd w 2 (.slice A L.length cap) L.length (prs L)) => of_frame L _ w hF h)
  have hsw := frame_swap L
  generalize frame 1 L = f1 at *
  generalize frame 4 L = f4 at *
  replace hR := Lib.hid hR
  go_enter Tryd.func13, Tryd.ntmps13
  go_wp2_with fail
  have hA := Blk.new (w.alloc (.cells #[.string m, .string t, .slice A L.length cap] 36)) 28 #[.int .i64 0, .int .i64 0]
  have hB0 := ((Below.refl w.heap.size w).alloc (Nat.le_refl _) (.cells #[.string m, .string t, .slice A L.length cap] 36)).alloc (by rw [alloc_size']; omega) (.cells #[.int .i64 0, .int .i64 0] 28)
  rw [alloc_size', hG] at hA
  generalize (w.alloc (.cells #[.string m, .string t, .slice A L.length cap] 36)).alloc (.cells #[.int .i64 0, .int .i64 0] 28) = w2 at *
  have hR2 := hR.out.below hB0
  refine (hO.out _ hR2).mono ?_
  rintro e w3 ⟨rfl, hb3⟩
  have hK := hA.below hb3
  have hB3 := Below.next hB0 hB0.size hb3
  have c0 : w3.cell? ⟨G + 1, 0, none⟩ = some (.int .i64 0) := hK.cell 0
  have c1 : w3.cell? ⟨G + 1, 1, none⟩ = some (.int .i64 0) := hK.cell 1
  have g0 := hK.frozen 0
  have g1 := hK.frozen 1
  have hGl : G + 1 < w3.heap.size := hK.lt
  have hwl := hB3.size
  replace hK := Lib.hid hK
  replace hB3 := Lib.hid hB3
  clear hb3 hR2 hA hB0
  rw [show frameV f4 = .agg #[.int .i64 (f4.1.1 : Int), .int .i64 (f4.1.2 : Int)] from rfl]
  rcases hsw with ⟨rfl, rfl⟩ | ⟨h4, rfl⟩
  · rw [show errV (((4, 0), 0) : Out).2 = .nilIface from rfl]
    go_wp2
    exact ret_blk rfl rfl rfl ((hK.out.two _ _).alloc _) Tryd.underlying28 rfl (by kernel_rfl) ⟨rfl, by first | exact two_alloc hG hB3.out hwl _ _ _ | exact two_alloc' hG hB3.out hwl _ _ _⟩
  · have hk4 : ((f1.1.1 : Int) == 4) = false := beq_false_of_ne (by omega)
    generalize hev : errV f1.2 = ev
    replace hev := Lib.hid hev
    go_wp2
    exact ret_blk rfl rfl rfl ((hK.out.two _ _).alloc _) Tryd.underlying28 rfl (by kernel_rfl) ⟨by rw [hev.out]; rfl, by first | exact two_alloc hG hB3.out hwl _ _ _ | exact two_alloc' hG hB3.out hwl _ _ _⟩
set_option maxHeartbeats 2000000 in
theorem is_same (f : Out) (w : World) : Calls Tryd.prog 17 #[frameV f, frameV f] w fun e w' => e = .returned (.bool true) ∧ Below w.heap.size w w' := by
  rw [show frameV f = .agg #[.int .i64 (f.1.1 : Int), .int .i64 (f.1.2 : Int)] from rfl]
  have h1 := beq_self_eq_true ((f.1.1 : Int))
  have h2 := beq_self_eq_true ((f.1.2 : Int))
  generalize (f.1.1 : Int) = a at *
  generalize (f.1.2 : Int) = b at *
  go_enter Tryd.func17, Tryd.ntmps17
  go_wp2
  go_ret
  exact ⟨rfl, ((Below.refl w.heap.size w).alloc (Nat.le_refl _) _).alloc (by rw [alloc_size']; omega) _⟩
end Go.Proofs.YtodgkppjabhhlaaDoor
