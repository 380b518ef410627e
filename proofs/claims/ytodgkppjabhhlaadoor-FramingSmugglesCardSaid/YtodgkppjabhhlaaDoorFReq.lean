/-
  Requests: turned into the program's, their frames, and the law's helpers.
-/
import Derived.Test.YtodgkppjabhhlaaDoorFROf
import Derived.Deep.RegionWith
namespace Go.Proofs.YtodgkppjabhhlaaDoor
open Go.RowKit Syn Fr

theorem infoF : (Tryd.prog.info? 48).map (fun i => (i.zero, i.size, i.bytes)) = some (some (.agg #[.string ⟨#[]⟩, .string ⟨#[]⟩]), 2, 32) := by kernel_rfl
set_option maxRecDepth 100000 in
set_option maxHeartbeats 4000000 in
theorem fields_any (L : List (Bytes × Bytes)) (v : Value) (w : World) (hl : L.length ≤ 100) (hR : Rd w 2 v L.length (prs L)) :
    Calls Tryd.prog 29 #[v] w fun e w' => ∃ o, e = .returned o ∧ Own w' w.heap.size 48 2 o L.length (prs L) ∧ Below w.heap.size w w' := by
  obtain ⟨A, cap, rfl, hcap, -, -⟩ := id hR
  replace hR := Lib.hid hR
  go_enter Tryd.func29, Tryd.ntmps29
  go_wp2
  go_loopw [3, 8] (fun o i wr => ∃ k : Nat, i = .int .i64 (k : Int) ∧ k ≤ L.length ∧ Hid (Own wr w.heap.size 48 2 o k (prs (L.take k))) ∧ Hid (Below w.heap.size w wr)) (fun _ i _ => L.length - (intOf i).toNat)
  case atStart => exact ⟨0, rfl, by omega, own_nil _ _ _ _, Below.refl _ _⟩
  case round =>
    obtain ⟨k, rfl, hk, ho, hB⟩ := hrel
    have hBw := hB.out.size
    by_cases hlt : k < L.length
    · obtain ⟨A', cap', e', -, -, r'⟩ := hR.out.below hB.out
      cases e'
      obtain ⟨b1, o1, rfl, _, x1⟩ := r' (by omega)
      have d1 : wr.cell? ⟨b1, o1 + k * 2, none⟩ = some (.string (str L[k].1)) := x1 _ _ (prs_at0 hlt)
      have d2 : wr.cell? ⟨b1, o1 + k * 2 + 1, none⟩ = some (.string (str L[k].2)) := x1 _ _ (prs_at1 hlt)
      have htk := Lib.hid (List.take_succ_eq_append_getElem hlt)
      clear x1 r'
      generalize L[k] = p at *
      obtain ⟨n, vv⟩ := p
      simp only at d1 d2
      go_wp2_with (at_builtin; refine push_pair 34 48 Tryd.underlying34 infoF _ _ rfl rfl rfl (own_below ho.out ((Below.refl _ _).alloc (Nat.le_refl _) _)) (by rw [alloc_size']; rfl) rfl rfl (by omega) (by rw [alloc_size']; omega) ?_; intro v7 w7 ho7 hb7; replace ho7 := Lib.hid ho7; have hB7 := Lib.hid ((hB.out.alloc hBw _).trans hb7); clear hb7)
      go_roundw
      case rel => exact ⟨k + 1, by go_num, by omega, Lib.hid (by rw [htk.out, prs_snoc]; exact ho7.out), hB7⟩
      case measure => simp [intOf]; omega
    · obtain rfl : k = L.length := by omega
      rw [List.take_length] at ho
      go_wp2
      go_ret
      exact ⟨_, rfl, ho.out, hB.out⟩
theorem own_far {w : World} {B sz n : Nat} {e : TypeId} {v : Value} {xs : List Value} (h : Own w B e sz v n xs) {p : Addr} (hp : p.block < B) (u : Value) : Own (w.setCell p u) B e sz v n xs := by
  obtain ⟨hl, h⟩ := h
  refine ⟨hl, ?_⟩
  rcases h with h | ⟨g, cap, cur, e1, h1, hg, h2⟩
  · exact .inl h
  · refine .inr ⟨g, cap, cur, e1, h1, ?_, h2⟩
    rw [Below.heap_setCell w p u g (by omega)]; exact hg
/-- A struct that lies in its own block, handed back alone. -/
theorem ret_one {P : Program} {fn : Func} {p : Tmp} {ty t : TypeId} {R : Ending → World → Prop} {a : Act} {w : World} {g : Nat} {cs : Array Value} {d : TypeDesc} (h : fn.results = #[.cell p ty])
    (hd0 : a.defers = []) (hp : a.tmps.getD p undef = .pointer (some ⟨g, 0, none⟩)) (hb : Blk w g t cs) (hu : P.underlying ty = some d) (hd : (match d with | .struct _ | .array _ _ => true | _ => false) = true)
    (hi : (P.info? ty).map (·.size) = some cs.size) (hR : R (.returned (.agg cs)) w) : bodyPost P fn R .ret a w :=
  bodyPost_ret (results_cell_row h _ w g t cs (0, 0) d hp hb hu hd hi) hd0 hR
theorem Blk.three {w : World} {g : Nat} {t : TypeId} {x y z : Value} (h : Blk w g t #[x, y, z]) (a b c : Value) : Blk (((w.setCell ⟨g, 0, none⟩ a).setCell ⟨g, 1, none⟩ b).setCell ⟨g, 2, none⟩ c) g t #[a, b, c] := ((h.set_ 0 a).set_ 1 b).set_ 2 c
set_option maxRecDepth 100000 in
set_option maxHeartbeats 8000000 in
theorem request_any (L : List (Bytes × Bytes)) (m t v : Value) (w : World) (hm : ∃ s, m = .string s) (ht : ∃ s, t = .string s) (hl : L.length ≤ 100) (hR : Rd w 2 v L.length (prs L)) :
    Calls Tryd.prog 14 #[.agg #[m, t, v]] w fun e w' => ∃ o, e = .returned (.agg #[m, t, o]) ∧ Rd w' 2 o L.length (prs L) ∧ Below w.heap.size w w' := by
  obtain ⟨m, rfl⟩ := hm
  obtain ⟨t, rfl⟩ := ht
  obtain ⟨A, cap, rfl, hcap, -, -⟩ := id hR
  obtain ⟨G, hG⟩ : ∃ G, w.heap.size = G := ⟨_, rfl⟩
  have hFl := Lib.hid (fun w (h : Rd w 2 (.slice A L.length cap) L.length (prs L)) => fields_any L _ w hl h)
  replace hR := Lib.hid hR
  go_enter Tryd.func14, Tryd.ntmps14
  go_wp2_with fail
  have hA := (Blk.new w 24 #[.string m, .string t, .slice A L.length cap]).alloc (.cells #[.string ⟨#[]⟩, .string ⟨#[]⟩, .slice none 0 0] 36)
  have hC := Blk.new (w.alloc (.cells #[.string m, .string t, .slice A L.length cap] 24)) 36 #[.string ⟨#[]⟩, .string ⟨#[]⟩, .slice none 0 0]
  have hB0 := ((Below.refl w.heap.size w).alloc (Nat.le_refl _) (.cells #[.string m, .string t, .slice A L.length cap] 24)).alloc (by rw [alloc_size']; omega) (.cells #[.string ⟨#[]⟩, .string ⟨#[]⟩, .slice none 0 0] 36)
  have hR2 := hR.out.below hB0
  rw [alloc_size', hG] at hC
  rw [hG] at hA
  generalize (w.alloc (.cells #[.string m, .string t, .slice A L.length cap] 24)).alloc (.cells #[.string ⟨#[]⟩, .string ⟨#[]⟩, .slice none 0 0] 36) = w2 at *
  have a0 : w2.cell? ⟨G, 0, none⟩ = some (.string m) := hA.cell 0
  have a1 : w2.cell? ⟨G, 1, none⟩ = some (.string t) := hA.cell 1
  have a2 : w2.cell? ⟨G, 2, none⟩ = some (.slice A L.length cap) := hA.cell 2
  have hRd : ∀ n, Rd (w2.drewN n) 2 (.slice A L.length cap) L.length (prs L) := fun n => hR2
  replace hA := Lib.hid hA
  replace hC := Lib.hid hC
  replace hB0 := Lib.hid hB0
  have hFl2 : ∀ w3, w3 = w2.drew → Calls Tryd.prog 29 #[.slice A L.length cap] w3 fun e w' => ∃ o, e = .returned o ∧ Own w' w2.heap.size 48 2 o L.length (prs L) ∧ Below w2.heap.size w2 w' ∧ Blk w' (G + 1) 36 #[.string ⟨#[]⟩, .string ⟨#[]⟩, .slice none 0 0] ∧ Blk w' G 24 #[.string m, .string t, .slice A L.length cap] := fun w3 h3 => by
    subst h3
    refine (hFl.out w2.drew (hRd 1)).mono ?_
    rintro e w' ⟨o, rfl, ho, hb⟩
    have hb' : Below w2.heap.size w2 w' := below_of_drew hb
    exact ⟨o, rfl, ho, hb', hC.out.below hb', hA.out.below hb'⟩
  replace hFl2 := Lib.hid hFl2
  clear hR2 hRd
  go_region_with (first | (go_at_call 29; refine (hFl2.out _ rfl).mono ?_; rintro e w5 ⟨o, rfl, hR5, hb5, hC5, hA5⟩; have e0 : w5.cell? ⟨G, 0, none⟩ = some (.string m) := hA5.cell 0; have e1 : w5.cell? ⟨G, 1, none⟩ = some (.string t) := hA5.cell 1; have s0 : w5.cell? ⟨G + 1, 0, none⟩ = some (.string ⟨#[]⟩) := hC5.cell 0; have s1 : w5.cell? ⟨G + 1, 1, none⟩ = some (.string ⟨#[]⟩) := hC5.cell 1; have s2 : w5.cell? ⟨G + 1, 2, none⟩ = some (.slice none 0 0) := hC5.cell 2; have g0 := hC5.frozen 0; have g1 := hC5.frozen 1; have g2 := hC5.frozen 2; obtain ⟨A5, c5, rfl, -, -, -⟩ : Rd w5 2 o L.length (prs L) := Rd.own hR5; replace hC5 := Lib.hid hC5; replace hR5 := Lib.hid hR5; replace hb5 := Lib.hid hb5; clear hA5))
  all_goals
    go_wp2_with fail
    have hBf := Below.next hB0.out hB0.out.size hb5.out
    have hst : Below w.heap.size _ (((w5.setCell ⟨G + 1, 0, none⟩ (.string m)).setCell ⟨G + 1, 1, none⟩ (.string t)).setCell ⟨G + 1, 2, none⟩ (.slice A5 L.length c5)) := ((hBf.setCell (p := ⟨G + 1, 0, none⟩) (by show w.heap.size ≤ G + 1; omega) _).setCell (p := ⟨G + 1, 1, none⟩) (by show w.heap.size ≤ G + 1; omega) _).setCell (p := ⟨G + 1, 2, none⟩) (by show w.heap.size ≤ G + 1; omega) _
    have hGl : G + 1 < w2.heap.size := hC.out.lt
    exact ret_one rfl rfl rfl (hC5.out.three _ _ _) Tryd.underlying36 rfl (by kernel_rfl) ⟨_, rfl, Rd.own (own_far (own_far (own_far hR5.out (p := ⟨G + 1, 0, none⟩) hGl _) (p := ⟨G + 1, 1, none⟩) hGl _) (p := ⟨G + 1, 2, none⟩) hGl _), hst⟩
end Go.Proofs.YtodgkppjabhhlaaDoor
