/-
  The walk of FramingLenient.
-/
import Derived.Test.YtodgkppjabhhlaaDoorFAmb
import Derived.Test.YtodgkppjabhhlaaDoorFReqWalk
import Derived.Deep.RegionHeld3
import Derived.Deep.DrawnRows
import Derived.Deep.DeepCutAuto
namespace Go.Proofs.YtodgkppjabhhlaaDoor
open Go.RowKit Syn Fr
attribute [local go_sem ↓] Go.wp_at_zero Go.wp_at_succ

/-- The facts on a block of two cells that the walk reads: also behind an alloc. -/
theorem Blk.facts {w : World} {g : Nat} {t : TypeId} {x y : Value} (h : Blk w g t #[x, y]) :
    w.cell? ⟨g, 0, none⟩ = some x ∧ w.cell? ⟨g, 1, none⟩ = some y ∧ w.frozen? ⟨g, 0, none⟩ = false ∧ w.frozen? ⟨g, 1, none⟩ = false ∧ (∀ o, (w.alloc o).cell? ⟨g, 0, none⟩ = some x) ∧ (∀ o, (w.alloc o).cell? ⟨g, 1, none⟩ = some y) ∧ (∀ o, (w.alloc o).frozen? ⟨g, 0, none⟩ = false) ∧ (∀ o, (w.alloc o).frozen? ⟨g, 1, none⟩ = false) ∧
    (∀ o p, ((w.alloc o).alloc p).cell? ⟨g, 0, none⟩ = some x) ∧ (∀ o p, ((w.alloc o).alloc p).cell? ⟨g, 1, none⟩ = some y) ∧ (∀ o p, ((w.alloc o).alloc p).frozen? ⟨g, 0, none⟩ = false) ∧ (∀ o p, ((w.alloc o).alloc p).frozen? ⟨g, 1, none⟩ = false) :=
  ⟨h.cell 0, h.cell 1, h.frozen 0, h.frozen 1, fun o => (h.alloc o).cell 0, fun o => (h.alloc o).cell 1, fun o => (h.alloc o).frozen 0, fun o => (h.alloc o).frozen 1, fun o p => ((h.alloc o).alloc p).cell 0, fun o p => ((h.alloc o).alloc p).cell 1, fun o p => ((h.alloc o).alloc p).frozen 0, fun o p => ((h.alloc o).alloc p).frozen 1⟩
theorem Blk.newAt {w : World} {g : Nat} {t : TypeId} {cs : Array Value} (h : g = w.heap.size) : Blk (w.alloc (.cells cs t)) g t cs := by rw [h]; exact Blk.new w t cs
theorem fin_aa (w : World) (t : TypeId) (a b : Array Value) : Blk ((w.alloc (.cells a t)).alloc (.cells b t)) w.heap.size t a ∧ Blk ((w.alloc (.cells a t)).alloc (.cells b t)) (w.heap.size + 1) t b :=
  ⟨(Blk.new w t a).alloc _, Blk.newAt (alloc_size' _ _).symm⟩
theorem fin_sa {w : World} {g : Nat} {t : TypeId} {x y : Value} (h : Blk w g t #[x, y]) (a b : Value) (c : Array Value) : Blk (((w.setCell ⟨g, 0, none⟩ a).setCell ⟨g, 1, none⟩ b).alloc (.cells c t)) g t #[a, b] ∧ Blk (((w.setCell ⟨g, 0, none⟩ a).setCell ⟨g, 1, none⟩ b).alloc (.cells c t)) w.heap.size t c :=
  ⟨(h.two a b).alloc _, Blk.newAt (by rw [size_setCell, size_setCell])⟩
theorem fin_ss {w : World} {g g' : Nat} {t : TypeId} {x y z u : Value} (h : Blk w g t #[x, y]) (h' : Blk w g' t #[z, u]) (hne : g ≠ g') (a b c d : Value) :
    Blk ((((w.setCell ⟨g, 0, none⟩ a).setCell ⟨g, 1, none⟩ b).setCell ⟨g', 0, none⟩ c).setCell ⟨g', 1, none⟩ d) g t #[a, b] ∧ Blk ((((w.setCell ⟨g, 0, none⟩ a).setCell ⟨g, 1, none⟩ b).setCell ⟨g', 0, none⟩ c).setCell ⟨g', 1, none⟩ d) g' t #[c, d] :=
  ⟨((h.two a b).far (p := ⟨g', 0, none⟩) hne c).far (p := ⟨g', 1, none⟩) hne d, ((h'.far (p := ⟨g, 0, none⟩) (Ne.symm hne) a).far (p := ⟨g, 1, none⟩) (Ne.symm hne) b).two c d⟩
theorem bl_aa {B : Nat} {a w : World} (h : Below B a w) (hB : B ≤ w.heap.size) (o p : Obj) : Below B a ((w.alloc o).alloc p) := (h.alloc hB o).alloc (by rw [alloc_size']; omega) p
theorem bl_sa {B g : Nat} {a w : World} (h : Below B a w) (hB : B ≤ w.heap.size) (hg : B ≤ g) (x y : Value) (o : Obj) : Below B a (((w.setCell ⟨g, 0, none⟩ x).setCell ⟨g, 1, none⟩ y).alloc o) :=
  ((h.setCell (p := ⟨g, 0, none⟩) hg x).setCell (p := ⟨g, 1, none⟩) hg y).alloc (by rw [size_setCell, size_setCell]; exact hB) o
theorem bl_ss {B g g' : Nat} {a w : World} (h : Below B a w) (hg : B ≤ g) (hg' : B ≤ g') (x y z u : Value) : Below B a ((((w.setCell ⟨g, 0, none⟩ x).setCell ⟨g, 1, none⟩ y).setCell ⟨g', 0, none⟩ z).setCell ⟨g', 1, none⟩ u) :=
  (((h.setCell (p := ⟨g, 0, none⟩) hg x).setCell (p := ⟨g, 1, none⟩) hg y).setCell (p := ⟨g', 0, none⟩) hg' z).setCell (p := ⟨g', 1, none⟩) hg' u
theorem Blk.dr {w : World} {g : Nat} {t : TypeId} {cs : Array Value} (h : Blk w g t cs) : Blk w.drew g t cs := h
/-- What the law's last region reads. -/
def LenAt (w0 : World) (q g4 g5 : Nat) (m t : ByteArray) (B : Option Addr) (cap : Nat) (L : List (Bytes × Bytes)) (a b c d : Value) (w' : World) : Prop :=
  Below w0.heap.size w0 w' ∧ Rd w' 2 (.slice B L.length cap) L.length (prs L) ∧ w'.cell? ⟨q, 0, none⟩ = some (.string m) ∧ w'.cell? ⟨q, 1, none⟩ = some (.string t) ∧ w'.cell? ⟨q, 2, none⟩ = some (.slice B L.length cap) ∧
    w'.cell? ⟨g4, 0, none⟩ = some a ∧ w'.cell? ⟨g4, 1, none⟩ = some b ∧ w'.cell? ⟨g5, 0, none⟩ = some c ∧ w'.cell? ⟨g5, 1, none⟩ = some d
theorem LenAt.below {w0 w' w'' : World} {q g4 g5 : Nat} {m t : ByteArray} {B : Option Addr} {cap : Nat} {L : List (Bytes × Bytes)} {a b c d : Value} (h : LenAt w0 q g4 g5 m t B cap L a b c d w') (hq : q < w0.heap.size) (h4 : g4 < w0.heap.size) (h5 : g5 < w0.heap.size) (hb : Below w'.heap.size w' w'') : LenAt w0 q g4 g5 m t B cap L a b c d w'' := by
  have hs := h.1.size
  have lq : q < w'.heap.size := by omega
  have l4 : g4 < w'.heap.size := by omega
  have l5 : g5 < w'.heap.size := by omega
  obtain ⟨hB, hR, c0, c1, c2, c3, c4, c5, c6⟩ := h
  exact ⟨hB.trans (hb.mono hs), hR.below hb, (hb.cell (p := ⟨q, 0, none⟩) lq).trans c0, (hb.cell (p := ⟨q, 1, none⟩) lq).trans c1, (hb.cell (p := ⟨q, 2, none⟩) lq).trans c2, (hb.cell (p := ⟨g4, 0, none⟩) l4).trans c3, (hb.cell (p := ⟨g4, 1, none⟩) l4).trans c4, (hb.cell (p := ⟨g5, 0, none⟩) l5).trans c5, (hb.cell (p := ⟨g5, 1, none⟩) l5).trans c6⟩
theorem LenAt.rd {w0 w' : World} {q g4 g5 : Nat} {m t : ByteArray} {B : Option Addr} {cap : Nat} {L : List (Bytes × Bytes)} {a b c d : Value} (h : LenAt w0 q g4 g5 m t B cap L a b c d w') : Rd w' 2 (.slice B L.length cap) L.length (prs L) := h.2.1
set_option maxRecDepth 100000 in
set_option maxHeartbeats 16000000 in
theorem lenient_walk (L : List (Bytes × Bytes)) (m t : ByteArray) (v : Value) (w : World) (hR : Rd w 2 v L.length (prs L)) (hbig : ∀ p ∈ L, p.1.length ≤ 140737488355328 ∧ p.2.length ≤ 140737488355328) (hlm : L.length ≤ 140737488355328) :
    Calls Tryd.prog 8 #[.agg #[.string m, .string t, v]] w fun e w' => e = .returned (.bool true) ∧ Below w.heap.size w w' := by
  obtain ⟨A, cap, rfl, hcap, -, -⟩ := id hR
  obtain ⟨G, hG⟩ : ∃ G, w.heap.size = G := ⟨_, rfl⟩
  have hFt := Lib.hid (fun w (h : Rd w 2 (.slice A L.length cap) L.length (prs L)) => fits_any L _ w h hbig hlm)
  replace hR := Lib.hid hR
  replace hbig := Lib.hid hbig
  go_enter Tryd.func8, Tryd.ntmps8
  go_wp2_with fail
  have hA := Blk.new w 24 #[.string m, .string t, .slice A L.length cap]
  have hB0 := (Below.refl w.heap.size w).alloc (Nat.le_refl _) (.cells #[.string m, .string t, .slice A L.length cap] 24)
  rw [hG] at hA
  generalize w.alloc (.cells #[.string m, .string t, .slice A L.length cap] 24) = w0 at *
  refine (fawake_any _).mono ?_
  rintro e w1 ⟨rfl, hb1⟩
  have hA1 := hA.below hb1
  have hR1 := Lib.hid (hR.out.below (hB0.trans (hb1.mono hB0.size)))
  have hB1 := Lib.hid (Below.next hB0 hB0.size hb1)
  have c0 : w1.cell? ⟨G, 0, none⟩ = some (.string m) := hA1.cell 0
  have c1 : w1.cell? ⟨G, 1, none⟩ = some (.string t) := hA1.cell 1
  have c2 : w1.cell? ⟨G, 2, none⟩ = some (.slice A L.length cap) := hA1.cell 2
  replace hA1 := Lib.hid hA1
  clear hb1 hA hB0
  go_wp2_with fail
  refine (hFt.out _ hR1.out).mono ?_
  rintro e w2 ⟨b, rfl, hfew, nd, rfl⟩
  cases b
  · clear hfew
    go_wp2_with fail
    refine (fawake_any _).mono ?_
    rintro e w3 ⟨rfl, hb3⟩
    have hB3 := Lib.hid (Below.next (below_drewN hB1.out nd) hB1.out.size hb3)
    clear hb3
    go_wp2
    go_ret
    exact ⟨rfl, hB3.out⟩
  · have hF := Lib.hid (hfew rfl)
    have hl : L.length ≤ 100 := hF.out.len
    have hRq := Lib.hid (fun w h => request_any L (.string m) (.string t) (.slice A L.length cap) w ⟨_, rfl⟩ ⟨_, rfl⟩ hl h)
    have hRl : ∀ (f : Bool) w, Rd w 2 (.slice A L.length cap) L.length (prs L) → Calls Tryd.prog 25 #[.agg #[.string m, .string t, .slice A L.length cap], .bool f] w fun e w' => e = .returned (.agg #[.int .i64 ((lenient L f).1 : Int), .int .i64 ((lenient L f).2 : Int)]) ∧ Below w.heap.size w w' := fun f w h => rlenient_any L m t A cap f w hF.out h
    have hCl : ∀ B cap' (f : Bool) w, Rd w 2 (.slice B L.length cap') L.length (prs L) → Calls Tryd.prog 26 #[.agg #[.string m, .string t, .slice B L.length cap'], .bool f] w fun e w' => e = .returned (.agg #[.int .i64 ((lenient L f).1 : Int), .int .i64 ((lenient L f).2 : Int)]) ∧ Below w.heap.size w w' := fun B cap' f w h => lenient_any L m t B cap' f w hF.out h
    have hAm := Lib.hid (fun w B cap' h => ambiguous_any L m t B cap' w hF.out h)
    obtain ⟨av, hav⟩ : ∃ av : Bool → Int, av = fun f => ((lenient L f).1 : Int) := ⟨_, rfl⟩
    obtain ⟨bv, hbv⟩ : ∃ bv : Bool → Int, bv = fun f => ((lenient L f).2 : Int) := ⟨_, rfl⟩
    replace hRl : ∀ (f : Bool) w, Rd w 2 (.slice A L.length cap) L.length (prs L) → Calls Tryd.prog 25 #[.agg #[.string m, .string t, .slice A L.length cap], .bool f] w fun e w' => e = .returned (.agg #[.int .i64 (av f), .int .i64 (bv f)]) ∧ Below w.heap.size w w' := fun f w h => by rw [hav, hbv]; exact hRl f w h
    replace hCl : ∀ B cap' (f : Bool) w, Rd w 2 (.slice B L.length cap') L.length (prs L) → Calls Tryd.prog 26 #[.agg #[.string m, .string t, .slice B L.length cap'], .bool f] w fun e w' => e = .returned (.agg #[.int .i64 (av f), .int .i64 (bv f)]) ∧ Below w.heap.size w w' := fun B cap' f w h => by rw [hav, hbv]; exact hCl B cap' f w h
    have hIs : ∀ (f : Bool) w, Calls Tryd.prog 17 #[.agg #[.int .i64 (av f), .int .i64 (bv f)], .agg #[.int .i64 (av f), .int .i64 (bv f)]] w fun e w' => e = .returned (.bool true) ∧ Below w.heap.size w w' := fun f w => by rw [hav, hbv]; exact is_same (lenient L f, 0) w
    have hlt : (amb L = false ∧ (av true == av false) = true ∧ (bv true == bv false) = true) ∨ (amb L = true ∧ (av true == av false) = false) := by
      rw [hav, hbv]
      dsimp only
      rcases lenient_two L with ⟨h1, h2⟩ | ⟨h1, n, h2, h3⟩
      · exact .inl ⟨h1, by rw [h2]; exact beq_self_eq_true _, by rw [h2]; exact beq_self_eq_true _⟩
      · exact .inr ⟨h1, by rw [h2, h3]; rfl⟩
    clear hav hbv hfew
    replace hRl := Lib.hid hRl
    replace hCl := Lib.hid hCl
    replace hIs := Lib.hid hIs
    replace hlt := Lib.hid hlt
    go_wp2_with fail
    refine (hRq.out _ (hR1.out.drewN nd)).mono ?_
    rintro e w3 ⟨o, rfl, hR3, hb3⟩
    obtain ⟨B, cap', rfl, -, -, -⟩ := id hR3
    have hb3' : Below w1.heap.size w1 w3 := ⟨hb3.os, hb3.tape, hb3.output, hb3.size, hb3.block⟩
    have hQ := Blk.new w3 36 #[.string m, .string t, .slice B L.length cap']
    have hA3 := (hA1.out.below hb3').alloc (.cells #[.string m, .string t, .slice B L.length cap'] 36)
    have hB3 := Below.next hB1.out hB1.out.size hb3'
    have hB4 := hB3.alloc hB3.size (.cells #[.string m, .string t, .slice B L.length cap'] 36)
    have hal := (Below.refl w3.heap.size w3).alloc (Nat.le_refl _) (.cells #[.string m, .string t, .slice B L.length cap'] 36)
    have hR4 := (hR1.out.below hb3').below hal
    have hR5 := hR3.below hal
    go_upto_region 4 with (fail)
    generalize w3.alloc (.cells #[.string m, .string t, .slice B L.length cap'] 36) = w4 at *
    have hGl := hA3.lt
    have hS : ReqAt w4 G m t A cap L w4 := ⟨Below.refl _ _, hR4, hA3.cell 0, hA3.cell 1, hA3.cell 2⟩
    have d0 : w4.cell? ⟨G, 0, none⟩ = some (.string m) := hA3.cell 0
    have d1 : w4.cell? ⟨G, 1, none⟩ = some (.string t) := hA3.cell 1
    have d2 : w4.cell? ⟨G, 2, none⟩ = some (.slice A L.length cap) := hA3.cell 2
    replace hB4 := Lib.hid hB4
    replace hQ := Lib.hid hQ
    replace hR5 := Lib.hid hR5
    clear hb3 hb3' hal hA3 hB3 hR4 hR3 c0 c1 c2 hA1 hR1 hB1
    go_cut [4, 5] (fun v4 v5 wx => (∃ g4 g5, v4 = .pointer (some ⟨g4, 0, none⟩) ∧ v5 = .pointer (some ⟨g5, 0, none⟩) ∧ Blk wx g4 38 #[.int .i64 (av true), .int .i64 (bv true)] ∧ Blk wx g5 38 #[.int .i64 (av false), .int .i64 (bv false)]) ∧ Below w4.heap.size w4 wx)
    case first =>
      go_wp2_with fail
      go_region_held3 (fun w' => Below w4.heap.size w4 w' ∧ Rd w' 2 (.slice A L.length cap) L.length (prs L) ∧ w'.cell? ⟨G, 0, none⟩ = some (.string m) ∧ w'.cell? ⟨G, 1, none⟩ = some (.string t) ∧ w'.cell? ⟨G, 2, none⟩ = some (.slice A L.length cap))
        (first | exact hS | (refine ReqAt.below hS hGl ?_; (repeat' (first | assumption | with_reducible exact Below.refl _ _ | with_reducible refine Below.drew ?_ | with_reducible refine Below.setCell ?_ ?_ _ | with_reducible refine Below.alloc ?_ ?_ _ | ((try simp only [alloc_size']); (try simp only [size_setCell]); omega)))))
        (first | (go_at_call 25; refine (hRl.out _ _ (ReqAt.rd (w0 := w4) (G := G) (m := m) (t := t) (by assumption))).mono ?_; rintro e w6 ⟨rfl, hb6⟩; have hL6 : Below w4.heap.size w4 w6 := (ReqAt.below (w0 := w4) (G := G) (m := m) (t := t) (A := A) (cap := cap) (L := L) (by assumption) hGl hb6).1; have hs6 := hL6.size; (try replace hb6 := below_of_drew hb6); have hs7 := hb6.size; (try simp only [alloc_size'] at hs7); (try have p1 := Blk.below k1 hb6; have p1f := p1.facts; (try simp only [World.size_drew] at p1f); (try simp only [alloc_size'] at p1f); have p1l := p1.lt; (try simp only [World.size_drew] at p1l); (try simp only [alloc_size'] at p1l); (try simp only [World.size_drew] at p1); (try simp only [alloc_size'] at p1); have p1n := Nat.ne_of_lt p1l; have p1m := Nat.ne_of_gt p1l); (try have p2 := Blk.below (Blk.alloc k1 _) hb6; have p2f := p2.facts; (try simp only [World.size_drew] at p2f); (try simp only [alloc_size'] at p2f); have p2l := p2.lt; (try simp only [World.size_drew] at p2l); (try simp only [alloc_size'] at p2l); (try simp only [World.size_drew] at p2); (try simp only [alloc_size'] at p2); have p2n := Nat.ne_of_lt p2l; have p2m := Nat.ne_of_gt p2l); (try have p3 := Blk.below k3 hb6; have p3f := p3.facts; (try simp only [World.size_drew] at p3f); (try simp only [alloc_size'] at p3f); have p3l := p3.lt; (try simp only [World.size_drew] at p3l); (try simp only [alloc_size'] at p3l); (try simp only [World.size_drew] at p3); (try simp only [alloc_size'] at p3); have p3n := Nat.ne_of_lt p3l; have p3m := Nat.ne_of_gt p3l); (try have p4 := Blk.below (Blk.alloc k3 _) hb6; have p4f := p4.facts; (try simp only [World.size_drew] at p4f); (try simp only [alloc_size'] at p4f); have p4l := p4.lt; (try simp only [World.size_drew] at p4l); (try simp only [alloc_size'] at p4l); (try simp only [World.size_drew] at p4); (try simp only [alloc_size'] at p4); have p4n := Nat.ne_of_lt p4l; have p4m := Nat.ne_of_gt p4l); (try have k1 := Blk.below (Blk.new _ _ _) hb6; have k1f := k1.facts; (try simp only [World.size_drew] at k1f); (try simp only [alloc_size'] at k1f); have k1l := k1.lt; (try simp only [World.size_drew] at k1l); (try simp only [alloc_size'] at k1l); (try simp only [World.size_drew] at k1); (try simp only [alloc_size'] at k1); have k1n := Nat.ne_of_lt k1l; have k1m := Nat.ne_of_gt k1l); (try have k3 := Blk.below (Blk.alloc (Blk.new _ _ _) _) hb6; have k3f := k3.facts; (try simp only [World.size_drew] at k3f); (try simp only [alloc_size'] at k3f); have k3l := k3.lt; (try simp only [World.size_drew] at k3l); (try simp only [alloc_size'] at k3l); (try simp only [World.size_drew] at k3); (try simp only [alloc_size'] at k3); have k3n := Nat.ne_of_lt k3l; have k3m := Nat.ne_of_gt k3l); (try have k3 := Blk.below (Blk.alloc (Blk.dr (Blk.new _ _ _)) _) hb6; have k3f := k3.facts; (try simp only [World.size_drew] at k3f); (try simp only [alloc_size'] at k3f); have k3l := k3.lt; (try simp only [World.size_drew] at k3l); (try simp only [alloc_size'] at k3l); (try simp only [World.size_drew] at k3); (try simp only [alloc_size'] at k3); have k3n := Nat.ne_of_lt k3l; have k3m := Nat.ne_of_gt k3l)))
      all_goals
        go_wp2_with fail
        go_meet
        refine ⟨⟨_, _, rfl, rfl, ?_, ?_⟩, ?_⟩
        · first | with_reducible exact (fin_aa _ _ _ _).1 | with_reducible exact (fin_aa _ _ _ _).2 | with_reducible exact (fin_sa (by assumption) _ _ _).1 | with_reducible exact (fin_sa (by assumption) _ _ _).2 | with_reducible exact (fin_ss (by assumption) (by assumption) (by first | assumption | exact Nat.ne_of_lt (Nat.lt_succ_self _) | exact Nat.ne_of_gt (Nat.lt_succ_self _)) _ _ _ _).1 | with_reducible exact (fin_ss (by assumption) (by assumption) (by first | assumption | exact Nat.ne_of_lt (Nat.lt_succ_self _) | exact Nat.ne_of_gt (Nat.lt_succ_self _)) _ _ _ _).2
        · first | with_reducible exact (fin_aa _ _ _ _).1 | with_reducible exact (fin_aa _ _ _ _).2 | with_reducible exact (fin_sa (by assumption) _ _ _).1 | with_reducible exact (fin_sa (by assumption) _ _ _).2 | with_reducible exact (fin_ss (by assumption) (by assumption) (by first | assumption | exact Nat.ne_of_lt (Nat.lt_succ_self _) | exact Nat.ne_of_gt (Nat.lt_succ_self _)) _ _ _ _).1 | with_reducible exact (fin_ss (by assumption) (by assumption) (by first | assumption | exact Nat.ne_of_lt (Nat.lt_succ_self _) | exact Nat.ne_of_gt (Nat.lt_succ_self _)) _ _ _ _).2
        · first | with_reducible exact bl_aa (by assumption) (by assumption) _ _ | with_reducible exact bl_sa (by assumption) (by assumption) (by first | assumption | exact Nat.le_refl _ | exact Nat.le_succ _ | exact Nat.le_succ_of_le (by assumption)) _ _ _ | with_reducible exact bl_ss (by assumption) (by first | assumption | exact Nat.le_refl _ | exact Nat.le_succ _ | exact Nat.le_succ_of_le (by assumption)) (by first | assumption | exact Nat.le_refl _ | exact Nat.le_succ _ | exact Nat.le_succ_of_le (by assumption)) _ _ _ _
    case rest =>
      obtain ⟨⟨g4, g5, rfl, rfl, hb4, hb5⟩, hBx⟩ := hcut
      rename World => wx
      have hqx := hQ.out.below hBx
      have hql := hqx.lt
      have h4l := hb4.lt
      have h5l := hb5.lt
      have hT : LenAt wx w3.heap.size g4 g5 m t B cap' L (.int .i64 (av true)) (.int .i64 (bv true)) (.int .i64 (av false)) (.int .i64 (bv false)) wx := ⟨Below.refl _ _, hR5.out.below hBx, hqx.cell 0, hqx.cell 1, hqx.cell 2, hb4.cell 0, hb4.cell 1, hb5.cell 0, hb5.cell 1⟩
      have hBy := Lib.hid (Below.next hB4.out hB4.out.size hBx)
      clear hBx hqx hb4 hb5 hS d0 d1 d2 hRl hRq hQ hR5 hB4
      go_wp2_with fail
      rcases hlt.out with ⟨h1, h2, h3⟩ | ⟨h1, h2⟩
      · rw [h1] at hAm
        clear h1 hlt
        go_region_held3 (fun w' => Below wx.heap.size wx w' ∧ Rd w' 2 (.slice B L.length cap') L.length (prs L) ∧ w'.cell? ⟨w3.heap.size, 0, none⟩ = some (.string m) ∧ w'.cell? ⟨w3.heap.size, 1, none⟩ = some (.string t) ∧ w'.cell? ⟨w3.heap.size, 2, none⟩ = some (.slice B L.length cap') ∧ w'.cell? ⟨g4, 0, none⟩ = some (.int .i64 (av true)) ∧ w'.cell? ⟨g4, 1, none⟩ = some (.int .i64 (bv true)) ∧ w'.cell? ⟨g5, 0, none⟩ = some (.int .i64 (av false)) ∧ w'.cell? ⟨g5, 1, none⟩ = some (.int .i64 (bv false)))
          (first | exact hT | exact LenAt.below hT hql h4l h5l (Below.refl _ _).drew | exact LenAt.below (by assumption) hql h4l h5l (by assumption))
          (first | (go_at_call 26; refine (hCl.out _ _ _ _ (LenAt.rd (w0 := wx) (q := w3.heap.size) (g4 := g4) (g5 := g5) (m := m) (t := t) (a := .int .i64 (av true)) (b := .int .i64 (bv true)) (c := .int .i64 (av false)) (d := .int .i64 (bv false)) (by assumption))).mono ?_; rintro e w6 ⟨rfl, hb6⟩) | (go_at_call 17; refine (hIs.out _ _).mono ?_; rintro e w6 ⟨rfl, hb6⟩) | (go_at_call 27; refine (hAm.out _ _ _ (LenAt.rd (w0 := wx) (q := w3.heap.size) (g4 := g4) (g5 := g5) (m := m) (t := t) (a := .int .i64 (av true)) (b := .int .i64 (bv true)) (c := .int .i64 (av false)) (d := .int .i64 (bv false)) (by assumption))).mono ?_; rintro e w6 ⟨rfl, hb6⟩))
        all_goals
          have hH : LenAt wx w3.heap.size g4 g5 m t B cap' L (.int .i64 (av true)) (.int .i64 (bv true)) (.int .i64 (av false)) (.int .i64 (bv false)) w6 := by assumption
          have hBz := Lib.hid (Below.next hBy.out hBy.out.size hH.1)
          clear hH hT
          go_wp2
          go_ret
          exact ⟨rfl, hBz.out⟩
      · rw [h1] at hAm
        clear h1 hlt
        go_region_held3 (fun w' => Below wx.heap.size wx w' ∧ Rd w' 2 (.slice B L.length cap') L.length (prs L) ∧ w'.cell? ⟨w3.heap.size, 0, none⟩ = some (.string m) ∧ w'.cell? ⟨w3.heap.size, 1, none⟩ = some (.string t) ∧ w'.cell? ⟨w3.heap.size, 2, none⟩ = some (.slice B L.length cap') ∧ w'.cell? ⟨g4, 0, none⟩ = some (.int .i64 (av true)) ∧ w'.cell? ⟨g4, 1, none⟩ = some (.int .i64 (bv true)) ∧ w'.cell? ⟨g5, 0, none⟩ = some (.int .i64 (av false)) ∧ w'.cell? ⟨g5, 1, none⟩ = some (.int .i64 (bv false)))
          (first | exact hT | exact LenAt.below hT hql h4l h5l (Below.refl _ _).drew | exact LenAt.below (by assumption) hql h4l h5l (by assumption))
          (first | (go_at_call 26; refine (hCl.out _ _ _ _ (LenAt.rd (w0 := wx) (q := w3.heap.size) (g4 := g4) (g5 := g5) (m := m) (t := t) (a := .int .i64 (av true)) (b := .int .i64 (bv true)) (c := .int .i64 (av false)) (d := .int .i64 (bv false)) (by assumption))).mono ?_; rintro e w6 ⟨rfl, hb6⟩) | (go_at_call 17; refine (hIs.out _ _).mono ?_; rintro e w6 ⟨rfl, hb6⟩) | (go_at_call 27; refine (hAm.out _ _ _ (LenAt.rd (w0 := wx) (q := w3.heap.size) (g4 := g4) (g5 := g5) (m := m) (t := t) (a := .int .i64 (av true)) (b := .int .i64 (bv true)) (c := .int .i64 (av false)) (d := .int .i64 (bv false)) (by assumption))).mono ?_; rintro e w6 ⟨rfl, hb6⟩))
        all_goals
          have hH : LenAt wx w3.heap.size g4 g5 m t B cap' L (.int .i64 (av true)) (.int .i64 (bv true)) (.int .i64 (av false)) (.int .i64 (bv false)) w6 := by assumption
          have hBz := Lib.hid (Below.next hBy.out hBy.out.size hH.1)
          clear hH hT
          go_wp2
          go_ret
          exact ⟨rfl, hBz.out⟩
end Go.Proofs.YtodgkppjabhhlaaDoor
