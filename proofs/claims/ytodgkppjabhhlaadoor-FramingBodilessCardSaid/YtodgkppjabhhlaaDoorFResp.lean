/-
  Responses: turned into the program's.
-/
import Derived.Test.YtodgkppjabhhlaaDoorFReq
namespace Go.Proofs.YtodgkppjabhhlaaDoor
open Go.RowKit Syn Fr

set_option maxRecDepth 100000 in
set_option maxHeartbeats 8000000 in
theorem response_any (L : List (Bytes × Bytes)) (z : Int) (v : Value) (w : World) (hl : L.length ≤ 100) (hR : Rd w 2 v L.length (prs L)) :
    Calls Tryd.prog 21 #[.agg #[.int .i64 z, v]] w fun e w' => ∃ o, e = .returned (.agg #[.int .i64 z, o]) ∧ Rd w' 2 o L.length (prs L) ∧ Below w.heap.size w w' := by
  obtain ⟨A, cap, rfl, hcap, -, -⟩ := id hR
  obtain ⟨G, hG⟩ : ∃ G, w.heap.size = G := ⟨_, rfl⟩
  have hFl := Lib.hid (fun w (h : Rd w 2 (.slice A L.length cap) L.length (prs L)) => fields_any L _ w hl h)
  replace hR := Lib.hid hR
  go_enter Tryd.func21, Tryd.ntmps21
  go_wp2_with fail
  have hA := (Blk.new w 53 #[.int .i64 z, .slice A L.length cap]).alloc (.cells #[.int .i64 0, .slice none 0 0] 56)
  have hC := Blk.new (w.alloc (.cells #[.int .i64 z, .slice A L.length cap] 53)) 56 #[.int .i64 0, .slice none 0 0]
  have hB0 := ((Below.refl w.heap.size w).alloc (Nat.le_refl _) (.cells #[.int .i64 z, .slice A L.length cap] 53)).alloc (by rw [alloc_size']; omega) (.cells #[.int .i64 0, .slice none 0 0] 56)
  have hR2 := hR.out.below hB0
  rw [alloc_size', hG] at hC
  rw [hG] at hA
  generalize (w.alloc (.cells #[.int .i64 z, .slice A L.length cap] 53)).alloc (.cells #[.int .i64 0, .slice none 0 0] 56) = w2 at *
  have a0 : w2.cell? ⟨G, 0, none⟩ = some (.int .i64 z) := hA.cell 0
  have a1 : w2.cell? ⟨G, 1, none⟩ = some (.slice A L.length cap) := hA.cell 1
  have hRd : ∀ n, Rd (w2.drewN n) 2 (.slice A L.length cap) L.length (prs L) := fun n => hR2
  replace hA := Lib.hid hA
  replace hC := Lib.hid hC
  replace hB0 := Lib.hid hB0
  have hFl2 : ∀ w3, w3 = w2.drew → Calls Tryd.prog 29 #[.slice A L.length cap] w3 fun e w' => ∃ o, e = .returned o ∧ Own w' w2.heap.size 48 2 o L.length (prs L) ∧ Below w2.heap.size w2 w' ∧ Blk w' (G + 1) 56 #[.int .i64 0, .slice none 0 0] ∧ Blk w' G 53 #[.int .i64 z, .slice A L.length cap] := fun w3 h3 => by
    subst h3
    refine (hFl.out w2.drew (hRd 1)).mono ?_
    rintro e w' ⟨o, rfl, ho, hb⟩
    have hb' : Below w2.heap.size w2 w' := below_of_drew hb
    exact ⟨o, rfl, ho, hb', hC.out.below hb', hA.out.below hb'⟩
  replace hFl2 := Lib.hid hFl2
  clear hR2 hRd
  go_region_with (first | (go_at_call 29; refine (hFl2.out _ rfl).mono ?_; rintro e w5 ⟨o, rfl, hR5, hb5, hC5, hA5⟩; have e0 : w5.cell? ⟨G, 0, none⟩ = some (.int .i64 z) := hA5.cell 0; have s0 : w5.cell? ⟨G + 1, 0, none⟩ = some (.int .i64 0) := hC5.cell 0; have s1 : w5.cell? ⟨G + 1, 1, none⟩ = some (.slice none 0 0) := hC5.cell 1; have g0 := hC5.frozen 0; have g1 := hC5.frozen 1; obtain ⟨A5, c5, rfl, -, -, -⟩ : Rd w5 2 o L.length (prs L) := Rd.own hR5; replace hC5 := Lib.hid hC5; replace hR5 := Lib.hid hR5; replace hb5 := Lib.hid hb5; clear hA5))
  all_goals
    go_wp2_with fail
    have hBf := Below.next hB0.out hB0.out.size hb5.out
    have hst : Below w.heap.size _ ((w5.setCell ⟨G + 1, 0, none⟩ (.int .i64 z)).setCell ⟨G + 1, 1, none⟩ (.slice A5 L.length c5)) := (hBf.setCell (p := ⟨G + 1, 0, none⟩) (by show w.heap.size ≤ G + 1; omega) _).setCell (p := ⟨G + 1, 1, none⟩) (by show w.heap.size ≤ G + 1; omega) _
    have hGl : G + 1 < w2.heap.size := hC.out.lt
    exact ret_one rfl rfl rfl (hC5.out.two _ _) Tryd.underlying56 rfl (by kernel_rfl) ⟨_, rfl, Rd.own (own_far (own_far hR5.out (p := ⟨G + 1, 0, none⟩) hGl _) (p := ⟨G + 1, 1, none⟩) hGl _), hst⟩
end Go.Proofs.YtodgkppjabhhlaaDoor
