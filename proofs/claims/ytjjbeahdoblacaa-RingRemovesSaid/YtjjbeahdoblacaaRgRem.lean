/-
  Layer 31: Remove.
-/
import Derived.Test.YtjjbeahdoblacaaRgDelW
import Derived.Test.YtjjbeahdoblacaaRgRing
import Derived.IntWalk
namespace Go.Proofs.Ytjjbeahdoblacaa
open Go.Shelf Go.RowKit Go.Lib Go.Sort Rg
/-- Remove of a node that is not there. -/
theorem rem_no (w : World) (B l : Nat) (v1 v2 : Value) (N : List Nm) (Q : List Pt) (x : Nm) (hr : Ring2 w B l v1 v2 N Q) (hA : Asc N) (hN : N.length ≤ 100) (hm : x ∉ N) :
    Calls Try.prog 23 #[.pointer (some ⟨l, 0, none⟩), .string (str x)] w fun e w' => e = .returned (.bool false) ∧ Below w.heap.size w w' := by
  have hr2 := hr.below (w' := w.alloc (.cells #[.string (str x)] 9)) ((Below.refl _ _).alloc (Nat.le_refl _) _)
  have hb0 := Lib.hid (show Below w.heap.size w (w.alloc (.cells #[.string (str x)] 9)) from (Below.refl _ _).alloc (Nat.le_refl _) _)
  have hR : (w.alloc (.cells #[.string (str x)] 9)).cell? ⟨w.heap.size, 0, none⟩ = some (.string (str x)) := (blk_new w 9 #[.string (str x)]).cell 0
  have hl0 : (w.alloc (.cells #[.string (str x)] 9)).cell? ⟨l, 0, none⟩ = some v1 := hr2.blk.cell 0
  have hbs := fun (W : World) (hb : Below (w.alloc (.cells #[.string (str x)] 9)).heap.size (w.alloc (.cells #[.string (str x)] 9)) W) => bsearch_any W v1 N x hA (by omega) (Rd.own (hr2.below hb).nodes)
  have hm' : decide (x ∈ N) = false := decide_eq_false hm
  simp only [hm'] at hbs
  have Hbs := Lib.hid hbs
  have c0 : w.cell? ⟨l, 0, none⟩ = some v1 := hr.blk.cell 0
  have hlt := hr.blk.lt
  clear hbs hm' hm hr hr2
  go_enter Try.func23, Try.ntmps23
  go_wp2_with fail
  go_region_with (go_at_call 32; refine (Hbs.out _ (by first | with_reducible exact Below.refl _ _ | with_reducible exact below_drewN (Below.refl _ _) _ | with_reducible exact (Below.refl _ _).drew)).mono ?_; rintro e w1 ⟨rfl, q, hw1⟩; have hW1 := Lib.hid hw1; clear hw1)
  all_goals
    go_wp2_with fail
    go_ret
    refine ⟨rfl, ?_⟩
    rw [hW1.out]
    first | exact below_drewN (below_drewN hb0.out _) _ | exact below_drewN hb0.out.drew _ | exact below_drewN hb0.out _ | exact hb0.out
/-- Remove of a node. -/
theorem rem_yes (w : World) (B l : Nat) (v1 v2 : Value) (N : List Nm) (Q : List Pt) (x : Nm) (hr : Ring2 w B l v1 v2 N Q) (hA : Asc N) (hN : N.length ≤ 100) (hQ : Q.length ≤ 1000000) (hm : x ∈ N) (hx : ∃ p ∈ Q, p.2 = x) :
    Calls Try.prog 23 #[.pointer (some ⟨l, 0, none⟩), .string (str x)] w fun e w' => e = .returned (.bool true) ∧ Kp (fun b => b = l ∨ v1.ownBlock = some b ∨ v2.ownBlock = some b) w w' ∧ ∃ v1' v2', Ring2 w' B l v1' v2' (N.eraseIdx (pos N x)) (offN x Q) := by
  have hpm := (pos_mem hA).1 hm
  obtain ⟨hpl, hpe⟩ := hpm
  obtain ⟨g1, p1, rfl⟩ := own_some hr.nodes (by omega)
  obtain ⟨g2, p2, rfl⟩ := own_some hr.points (by obtain ⟨p, hp, -⟩ := hx; exact List.length_pos_of_mem hp)
  have hb0' : Below w.heap.size w (w.alloc (.cells #[.string (str x)] 9)) := (Below.refl _ _).alloc (Nat.le_refl _) _
  have hr2 := hr.below hb0'
  have hb0 := Lib.hid hb0'
  have hkR := blk_new w 9 #[.string (str x)]
  have hR : (w.alloc (.cells #[.string (str x)] 9)).cell? ⟨w.heap.size, 0, none⟩ = some (.string (str x)) := hkR.cell 0
  have hl0 : (w.alloc (.cells #[.string (str x)] 9)).cell? ⟨l, 0, none⟩ = some (.slice (some ⟨g1, 0, none⟩) N.length p1) := hr2.blk.cell 0
  have hbs := fun (W : World) (hb : Below (w.alloc (.cells #[.string (str x)] 9)).heap.size (w.alloc (.cells #[.string (str x)] 9)) W) => bsearch_any W _ N x hA (by omega) (Rd.own (hr2.below hb).nodes)
  have hm' : decide (x ∈ N) = true := decide_eq_true hm
  simp only [hm'] at hbs
  have Hbs := Lib.hid hbs
  have Hr2 := Lib.hid hr2
  have HkR := Lib.hid hkR
  have c0 : w.cell? ⟨l, 0, none⟩ = some (.slice (some ⟨g1, 0, none⟩) N.length p1) := hr.blk.cell 0
  have hlt := hr.blk.lt
  have Hgl := Lib.hid (And.intro (World.ownsRow.lt hr.nodes g1 rfl).2 (World.ownsRow.lt hr.points g2 rfl).2)
  clear hbs hm' hm hr hr2 hb0' hkR
  go_enter Try.func23, Try.ntmps23
  go_upto_region 3 with fail
  go_cut [3, 5, 6] from 3 (fun c3 c5 c6 wx => c3 = .pointer (some ⟨w.heap.size, 0, none⟩) ∧ c5 = .int .i64 (pos N x : Nat) ∧ c6 = .bool true ∧ Hid (Below (w.alloc (.cells #[.string (str x)] 9)).heap.size (w.alloc (.cells #[.string (str x)] 9)) wx))
  case first =>
    go_region_with (go_at_call 32; refine (Hbs.out _ (by first | with_reducible exact Below.refl _ _ | with_reducible exact below_drewN (Below.refl _ _) _ | with_reducible exact (Below.refl _ _).drew)).mono ?_; rintro e w1 ⟨rfl, q, hw1⟩; have hW1 := Lib.hid (show Below (w.alloc (.cells #[.string (str x)] 9)).heap.size (w.alloc (.cells #[.string (str x)] 9)) w1 by rw [hw1]; first | exact below_drewN (below_drewN (Below.refl _ _) _) _ | exact below_drewN ((Below.refl _ _).drew) _ | exact below_drewN (Below.refl _ _) _ | exact Below.refl _ _); clear hw1)
    all_goals
      go_wp2_with fail
      go_meet
      exact ⟨rfl, rfl, rfl, hW1.out⟩
  case rest =>
    obtain ⟨rfl, rfl, rfl, hb1⟩ := hcut
    have hr1 := Hr2.out.below hb1.out
    have hk1 := HkR.out.below hb1.out
    have hB1 := Lib.hid ((Kp.refl (fun b => b = l ∨ (Value.slice (some ⟨g1, 0, none⟩) N.length p1).ownBlock = some b ∨ (Value.slice (some ⟨g2, 0, none⟩) Q.length p2).ownBlock = some b) w).below (hb0.out.trans (hb1.out.mono (by simp))))
    have Hr1 := Lib.hid hr1
    have Hk1 := Lib.hid hk1
    clear hR hl0 Hbs Hr2 HkR c0 hb1 hk1
    have d1 : wc.cell? ⟨l, 0, none⟩ = some (.slice (some ⟨g1, 0, none⟩) N.length p1) := hr1.blk.cell 0
    have hl1 := hr1.blk.lt
    have hde := delete_nm wc B g1 p1 (pos N x) N hpl hr1.nodes
    have hps : IntKind.i64.wrap ((pos N x : Nat) + 1 : Int) = (pos N x : Nat) + 1 := IntWalk.i64_in _ (by omega)
    clear hr1
    have hgl : g1 < w.heap.size ∧ g2 < w.heap.size := Hgl.out
    have HBl := Lib.hid hlt
    generalize hps' : pos N x = k at *
    generalize w.heap.size = R at *
    have hRg1 : R ≠ g1 := by omega
    have hRg2 : R ≠ g2 := by omega
    have hRl : R ≠ l := by omega
    clear hgl
    go_wp2_with fail
    refine hde.mono ?_
    rintro e w2 ⟨rfl, hO2, hK2⟩
    have hKv : Kp (fun b => (Value.slice (some ⟨g1, 0, none⟩) N.length p1).ownBlock = some b) wc w2 := hK2.mono (fun b _ e => by subst e; rfl)
    have f2 := Hr1.out.blk.kp Hr1.out.n1 hKv
    have f3 : w2.cell? ⟨l, 0, none⟩ = some (.slice (some ⟨g1, 0, none⟩) N.length p1) := f2.cell 0
    have f4 := f2.frozen 0
    have hk2 := Hk1.out.kp (fun e => hRg1 e) hK2
    obtain ⟨hr3, hG3⟩ := Hr1.out.mid (Grew.refl wc l _ _) (Below.refl _ _) hKv (newer_of (v' := .slice (some ⟨g1, 0, none⟩) (N.length - 1) p1) (Or.inl rfl)) (N' := N.eraseIdx k) (by rw [List.length_eraseIdx_of_lt hpl]; exact hO2)
    have hk3 := hk2.far (p := ⟨l, 0, none⟩) (fun e => hRl e) (.slice (some ⟨g1, 0, none⟩) (N.length - 1) p1)
    have hl2 := f2.lt
    have Hr3 := Lib.hid hr3
    have HG3 := Lib.hid hG3
    have Hk3 := Lib.hid hk3
    clear hde hK2 hKv hO2 f2 hk2 hr3 hG3 hk3 d1
    go_upto_region 7 with fail
    generalize w2.setCell ⟨l, 0, none⟩ (.slice (some ⟨g1, 0, none⟩) (N.length - 1) p1) = w3 at *
    clear f3 f4 hl2
    have hr3 := Hr3.out
    have d1 : w3.cell? ⟨l, 1, none⟩ = some (.slice (some ⟨g2, 0, none⟩) Q.length p2) := hr3.blk.cell 1
    have d3 := hr3.blk.lt
    have hdf := dfunc_any w3 B R g2 p2 Q x hr3.points (Hk3.out.cell 0) hQ hRg2 hx
    clear hr3
    go_wp2_with fail
    refine hdf.mono ?_
    rintro e w4 ⟨rfl, hO4, hK4⟩
    have hKv : Kp (fun b => (Value.slice (some ⟨g2, 0, none⟩) Q.length p2).ownBlock = some b) w3 w4 := hK4.mono (fun b _ e => by subst e; rfl)
    have f2 := Hr3.out.blk.kp Hr3.out.n2 hKv
    have f3 : w4.cell? ⟨l, 1, none⟩ = some (.slice (some ⟨g2, 0, none⟩) Q.length p2) := f2.cell 1
    have f4 := f2.frozen 1
    have hl4 := f2.lt
    obtain ⟨hr5, hG5⟩ := Hr3.out.mid2 HG3.out (Below.refl _ _) hKv (newer_of (v' := .slice (some ⟨g2, 0, none⟩) (offN x Q).length p2) (Or.inl rfl)) hO4
    have Hr5 := Lib.hid hr5
    have HG5 := Lib.hid hG5
    clear hdf hK4 hKv hO4 f2 hr5 hG5 d1
    go_wp2_with fail
    go_ret
    exact ⟨rfl, hB1.out.trans HG5.out.kp, _, _, by rw [hps']; exact Hr5.out⟩
end Go.Proofs.Ytjjbeahdoblacaa
