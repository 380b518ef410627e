/-
  Requests and responses are turned into the program's.
-/
import Derived.Test.YtemlnmelicnneaaDoorGByt
import Derived.Deep.RegionWith
namespace Go.Proofs.YtemlnmelicnneaaDoor
open Go.RowKit Syn

theorem own_far {w : World} {B sz n : Nat} {e : TypeId} {v : Value} {xs : List Value} (h : Own w B e sz v n xs) {p : Addr} (hp : p.block < B) (u : Value) : Own (w.setCell p u) B e sz v n xs := by
  obtain ⟨hl, h⟩ := h
  refine ⟨hl, ?_⟩
  rcases h with h | ⟨g, cap, cur, e1, h1, hg, h2⟩
  · exact .inl h
  · refine .inr ⟨g, cap, cur, e1, h1, ?_, h2⟩
    rw [Below.heap_setCell w p u g (by omega)]; exact hg
/-- A struct that lies in its own block, handed back alone. -/
theorem ret_one {P : Program} {fn : Func} {p : Tmp} {ty t : TypeId} {R : Ending → World → Prop} {a : Act} {w : World} {g : Nat} {cs : Array Value} {d : TypeDesc} (h : fn.results = #[.cell p ty])
    (hd0 : a.defers = []) (hp : a.tmps.getD p undef = .pointer (some ⟨g, 0, none⟩)) (hb : Blk w g t cs) (hu : P.underlying ty = some d) (hd : (match d with | .struct _ | .array _ _ => true | _ => false) = true)
    (hi : (P.info? ty).map (·.size) = some cs.size) (hR : R (.returned (.agg cs)) w) : bodyPost P fn R .ret a w :=
  bodyPost_ret (results_cell_row h _ w g t cs (0, 0) d hp hb hu hd hi) hd0 hR
theorem Blk.three {w : World} {g : Nat} {t : TypeId} {x y z : Value} (h : Blk w g t #[x, y, z]) (a b c : Value) : Blk (((w.setCell ⟨g, 0, none⟩ a).setCell ⟨g, 1, none⟩ b).setCell ⟨g, 2, none⟩ c) g t #[a, b, c] := ((h.set_ 0 a).set_ 1 b).set_ 2 c
set_option maxRecDepth 100000 in
set_option maxHeartbeats 8000000 in
theorem request_any (L : List (List UInt8 × List UInt8)) (m t v : Value) (w : World) (hm : ∃ s, m = .string s) (ht : ∃ s, t = .string s) (hl : L.length ≤ 100) (hR : Rd w 2 v L.length (prs L)) :
    Calls Tryd.prog 18 #[.agg #[m, t, v]] w fun e w' => ∃ o, e = .returned (.agg #[m, t, o]) ∧ Rd w' 2 o L.length (prs L) ∧ Below w.heap.size w w' := by
  obtain ⟨m, rfl⟩ := hm
  obtain ⟨t, rfl⟩ := ht
  obtain ⟨A, cap, rfl, hcap, -, -⟩ := id hR
  obtain ⟨G, hG⟩ : ∃ G, w.heap.size = G := ⟨_, rfl⟩
  have hFl := Lib.hid (fun w (h : Rd w 2 (.slice A L.length cap) L.length (prs L)) => fields_any L _ w hl h)
  replace hR := Lib.hid hR
  go_enter Tryd.func18, Tryd.ntmps18
  go_wp2_with fail
  have hA := (Blk.new w 43 #[.string m, .string t, .slice A L.length cap]).alloc (.cells #[.string ⟨#[]⟩, .string ⟨#[]⟩, .slice none 0 0] 46)
  have hC := Blk.new (w.alloc (.cells #[.string m, .string t, .slice A L.length cap] 43)) 46 #[.string ⟨#[]⟩, .string ⟨#[]⟩, .slice none 0 0]
  have hB0 := ((Below.refl w.heap.size w).alloc (Nat.le_refl _) (.cells #[.string m, .string t, .slice A L.length cap] 43)).alloc (by rw [alloc_size']; omega) (.cells #[.string ⟨#[]⟩, .string ⟨#[]⟩, .slice none 0 0] 46)
  have hR2 := hR.out.below hB0
  rw [alloc_size', hG] at hC
  rw [hG] at hA
  generalize (w.alloc (.cells #[.string m, .string t, .slice A L.length cap] 43)).alloc (.cells #[.string ⟨#[]⟩, .string ⟨#[]⟩, .slice none 0 0] 46) = w2 at *
  have a0 : w2.cell? ⟨G, 0, none⟩ = some (.string m) := hA.cell 0
  have a1 : w2.cell? ⟨G, 1, none⟩ = some (.string t) := hA.cell 1
  have a2 : w2.cell? ⟨G, 2, none⟩ = some (.slice A L.length cap) := hA.cell 2
  have hRd : ∀ n, Rd (w2.drewN n) 2 (.slice A L.length cap) L.length (prs L) := fun n => hR2
  replace hA := Lib.hid hA
  replace hC := Lib.hid hC
  replace hB0 := Lib.hid hB0
  have hFl2 : ∀ w3, w3 = w2.drew → Calls Tryd.prog 31 #[.slice A L.length cap] w3 fun e w' => ∃ o, e = .returned o ∧ Own w' w2.heap.size 86 2 o L.length (prs L) ∧ Below w2.heap.size w2 w' ∧ Blk w' (G + 1) 46 #[.string ⟨#[]⟩, .string ⟨#[]⟩, .slice none 0 0] ∧ Blk w' G 43 #[.string m, .string t, .slice A L.length cap] := fun w3 h3 => by
    subst h3
    refine (hFl.out w2.drew (hRd 1)).mono ?_
    rintro e w' ⟨o, rfl, ho, hb⟩
    have hb' : Below w2.heap.size w2 w' := below_of_drew hb
    exact ⟨o, rfl, ho, hb', hC.out.below hb', hA.out.below hb'⟩
  replace hFl2 := Lib.hid hFl2
  clear hR2 hRd
  go_region_with (first | (go_at_call 31; refine (hFl2.out _ rfl).mono ?_; rintro e w5 ⟨o, rfl, hR5, hb5, hC5, hA5⟩; have e0 : w5.cell? ⟨G, 0, none⟩ = some (.string m) := hA5.cell 0; have e1 : w5.cell? ⟨G, 1, none⟩ = some (.string t) := hA5.cell 1; have s0 : w5.cell? ⟨G + 1, 0, none⟩ = some (.string ⟨#[]⟩) := hC5.cell 0; have s1 : w5.cell? ⟨G + 1, 1, none⟩ = some (.string ⟨#[]⟩) := hC5.cell 1; have s2 : w5.cell? ⟨G + 1, 2, none⟩ = some (.slice none 0 0) := hC5.cell 2; have g0 := hC5.frozen 0; have g1 := hC5.frozen 1; have g2 := hC5.frozen 2; obtain ⟨A5, c5, rfl, -, -, -⟩ : Rd w5 2 o L.length (prs L) := Rd.own hR5; replace hC5 := Lib.hid hC5; replace hR5 := Lib.hid hR5; replace hb5 := Lib.hid hb5; clear hA5))
  all_goals
    go_wp2_with fail
    have hBf := Below.next hB0.out hB0.out.size hb5.out
    have hst : Below w.heap.size _ (((w5.setCell ⟨G + 1, 0, none⟩ (.string m)).setCell ⟨G + 1, 1, none⟩ (.string t)).setCell ⟨G + 1, 2, none⟩ (.slice A5 L.length c5)) := ((hBf.setCell (p := ⟨G + 1, 0, none⟩) (by show w.heap.size ≤ G + 1; omega) _).setCell (p := ⟨G + 1, 1, none⟩) (by show w.heap.size ≤ G + 1; omega) _).setCell (p := ⟨G + 1, 2, none⟩) (by show w.heap.size ≤ G + 1; omega) _
    have hGl : G + 1 < w2.heap.size := hC.out.lt
    exact ret_one rfl rfl rfl (hC5.out.three _ _ _) Tryd.underlying46 rfl (by kernel_rfl) ⟨_, rfl, Rd.own (own_far (own_far (own_far hR5.out (p := ⟨G + 1, 0, none⟩) hGl _) (p := ⟨G + 1, 1, none⟩) hGl _) (p := ⟨G + 1, 2, none⟩) hGl _), hst⟩
set_option maxRecDepth 100000 in
set_option maxHeartbeats 8000000 in
theorem response_any (L : List (List UInt8 × List UInt8)) (z : Int) (v : Value) (w : World) (hl : L.length ≤ 100) (hR : Rd w 2 v L.length (prs L)) :
    Calls Tryd.prog 12 #[.agg #[.int .i64 z, v]] w fun e w' => ∃ o, e = .returned (.agg #[.int .i64 z, o]) ∧ Rd w' 2 o L.length (prs L) ∧ Below w.heap.size w w' := by
  obtain ⟨A, cap, rfl, hcap, -, -⟩ := id hR
  obtain ⟨G, hG⟩ : ∃ G, w.heap.size = G := ⟨_, rfl⟩
  have hFl := Lib.hid (fun w (h : Rd w 2 (.slice A L.length cap) L.length (prs L)) => fields_any L _ w hl h)
  replace hR := Lib.hid hR
  go_enter Tryd.func12, Tryd.ntmps12
  go_wp2_with fail
  have hA := (Blk.new w 24 #[.int .i64 z, .slice A L.length cap]).alloc (.cells #[.int .i64 0, .slice none 0 0] 35)
  have hC := Blk.new (w.alloc (.cells #[.int .i64 z, .slice A L.length cap] 24)) 35 #[.int .i64 0, .slice none 0 0]
  have hB0 := ((Below.refl w.heap.size w).alloc (Nat.le_refl _) (.cells #[.int .i64 z, .slice A L.length cap] 24)).alloc (by rw [alloc_size']; omega) (.cells #[.int .i64 0, .slice none 0 0] 35)
  have hR2 := hR.out.below hB0
  rw [alloc_size', hG] at hC
  rw [hG] at hA
  generalize (w.alloc (.cells #[.int .i64 z, .slice A L.length cap] 24)).alloc (.cells #[.int .i64 0, .slice none 0 0] 35) = w2 at *
  have a0 : w2.cell? ⟨G, 0, none⟩ = some (.int .i64 z) := hA.cell 0
  have a1 : w2.cell? ⟨G, 1, none⟩ = some (.slice A L.length cap) := hA.cell 1
  have hRd : ∀ n, Rd (w2.drewN n) 2 (.slice A L.length cap) L.length (prs L) := fun n => hR2
  replace hA := Lib.hid hA
  replace hC := Lib.hid hC
  replace hB0 := Lib.hid hB0
  have hFl2 : ∀ w3, w3 = w2.drew → Calls Tryd.prog 31 #[.slice A L.length cap] w3 fun e w' => ∃ o, e = .returned o ∧ Own w' w2.heap.size 86 2 o L.length (prs L) ∧ Below w2.heap.size w2 w' ∧ Blk w' (G + 1) 35 #[.int .i64 0, .slice none 0 0] ∧ Blk w' G 24 #[.int .i64 z, .slice A L.length cap] := fun w3 h3 => by
    subst h3
    refine (hFl.out w2.drew (hRd 1)).mono ?_
    rintro e w' ⟨o, rfl, ho, hb⟩
    have hb' : Below w2.heap.size w2 w' := below_of_drew hb
    exact ⟨o, rfl, ho, hb', hC.out.below hb', hA.out.below hb'⟩
  replace hFl2 := Lib.hid hFl2
  clear hR2 hRd
  go_region_with (first | (go_at_call 31; refine (hFl2.out _ rfl).mono ?_; rintro e w5 ⟨o, rfl, hR5, hb5, hC5, hA5⟩; have e0 : w5.cell? ⟨G, 0, none⟩ = some (.int .i64 z) := hA5.cell 0; have s0 : w5.cell? ⟨G + 1, 0, none⟩ = some (.int .i64 0) := hC5.cell 0; have s1 : w5.cell? ⟨G + 1, 1, none⟩ = some (.slice none 0 0) := hC5.cell 1; have g0 := hC5.frozen 0; have g1 := hC5.frozen 1; obtain ⟨A5, c5, rfl, -, -, -⟩ : Rd w5 2 o L.length (prs L) := Rd.own hR5; replace hC5 := Lib.hid hC5; replace hR5 := Lib.hid hR5; replace hb5 := Lib.hid hb5; clear hA5))
  all_goals
    go_wp2_with fail
    have hBf := Below.next hB0.out hB0.out.size hb5.out
    have hst : Below w.heap.size _ ((w5.setCell ⟨G + 1, 0, none⟩ (.int .i64 z)).setCell ⟨G + 1, 1, none⟩ (.slice A5 L.length c5)) := (hBf.setCell (p := ⟨G + 1, 0, none⟩) (by show w.heap.size ≤ G + 1; omega) _).setCell (p := ⟨G + 1, 1, none⟩) (by show w.heap.size ≤ G + 1; omega) _
    have hGl : G + 1 < w2.heap.size := hC.out.lt
    exact ret_one rfl rfl rfl (hC5.out.two _ _) Tryd.underlying35 rfl (by kernel_rfl) ⟨_, rfl, Rd.own (own_far (own_far hR5.out (p := ⟨G + 1, 0, none⟩) hGl _) (p := ⟨G + 1, 1, none⟩) hGl _), hst⟩
end Go.Proofs.YtemlnmelicnneaaDoor
