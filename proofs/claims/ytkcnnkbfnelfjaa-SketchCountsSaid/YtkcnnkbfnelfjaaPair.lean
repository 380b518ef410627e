/-
  A sketch and the reference's sketch of one state, side by side.
-/
import Derived.Test.YtkcnnkbfnelfjaaArgs
import Derived.Test.YtkcnnkbfnelfjaaRAdd
namespace Go.Proofs.Ytkcnnkbfnelfjaa
open Go.RowKit Sk
section
variable {P : Program} {ops : Array Oper} {o : Oper} {a : Act} {w : World} {K : Act → World → Prop} {Q : Exit → Act → World → Prop} {E : Prop}
theorem step_load_row (hgd : o.guard = none) (ty : TypeId) (x : Operand) (ho : o.op = .load ty x)
    (g : Nat) (hx : a.eval x = .pointer (some ⟨g, 0, none⟩)) (t : TypeId) (cs : Array Value) (fr : Nat × Nat) (d : TypeDesc) (hg : w.heap[g]? = some (.cells cs t fr))
    (hu : P.underlying ty = some d) (hd : (match d with | .struct _ | .array _ _ => true | _ => false) = true) (hi : (P.info? ty).map (·.size) = some cs.size)
    (h : K (a.put o.dst (.agg cs)) w) : if Region.wanted o (yielded ops a.tmps) = true then Oper.wp P o a w K Q else E := by
  have hw : Region.wanted o (yielded ops a.tmps) = true := by simp [Region.wanted, hgd]
  rw [if_pos hw]
  exact wp_load_row ty x ho g hx t cs fr d hg hu hd hi h
theorem step_store_row (hgd : o.guard = none) (ty : TypeId) (x y : Operand) (ho : o.op = .store ty x y)
    (g : Nat) (cells : Array Value) (hx : a.eval x = .pointer (some ⟨g, 0, none⟩)) (hy : a.eval y = .agg cells)
    (t : TypeId) (old : Array Value) (hg : w.heap[g]? = some (.cells old t (0, 0))) (hi : (P.info? ty).map (·.size) = some cells.size)
    (hold : old.size = cells.size) (h1 : cells.all (·.oneCell') = true)
    (h : K (a.put o.dst undef) (w.setRow g cells)) : if Region.wanted o (yielded ops a.tmps) = true then Oper.wp P o a w K Q else E := by
  have hw : Region.wanted o (yielded ops a.tmps) = true := by simp [Region.wanted, hgd]
  rw [if_pos hw]
  exact wp_store_row ty x y ho g cells hx hy t old hg hi hold h1 h
end
theorem run_store_refV {w : World} {g W n W' n' : Nat} {B B' : Nat → Nat} (h : Blk w g 37 (refV W B n)) :
    Sem.run Try.prog (storeCells ⟨g, 0, none⟩ (refV W' B' n').toList) w = .ok () (w.setRow g (refV W' B' n')) := by
  have := run_storeCells_from (P := Try.prog) g 37 (refV W' B' n').toList 0 _ w h rfl (fun v hv => (Array.all_eq_true_iff_forall_mem.1 (refV_one W' B' n')) v (by simpa using hv))
  simpa using this
theorem refV_cells {w : World} {g W n : Nat} {B : Nat → Nat} (h : Blk w g 37 (refV W B n)) :
    w.cell? ⟨g, 0, none⟩ = some (.int .i64 W) ∧ w.cell? ⟨g, 1, none⟩ = some (.slice (some ⟨B 0, 0, none⟩) W W) ∧ w.cell? ⟨g, 2, none⟩ = some (.slice (some ⟨B 1, 0, none⟩) W W) ∧ w.cell? ⟨g, 3, none⟩ = some (.slice (some ⟨B 2, 0, none⟩) W W) ∧
    w.cell? ⟨g, 4, none⟩ = some (.slice (some ⟨B 3, 0, none⟩) W W) ∧ w.cell? ⟨g, 5, none⟩ = some (.slice (some ⟨B 4, 0, none⟩) W W) ∧ w.cell? ⟨g, 6, none⟩ = some (.int .i64 n) :=
  ⟨by rw [h.cell]; rfl, by rw [h.cell]; rfl, by rw [h.cell]; rfl, by rw [h.cell]; rfl, by rw [h.cell]; rfl, by rw [h.cell]; rfl, by rw [h.cell]; rfl⟩
theorem ref_ne {w : World} {R G : Nat} {B : Nat → Nat} {s : S} {cs : Array Value} (h : IsRef w R B s) (hg : Blk w G 37 cs) (i : Nat) (hi : i ≤ 4) : B i ≠ G := by
  rintro rfl
  by_cases e : i < 4
  · have := (h.row i e).symm.trans hg
    injection this with this
    injection this with _ this
    cases this
  · obtain rfl : i = 4 := by omega
    have := h.door.symm.trans hg
    injection this with this
    injection this with _ this
    cases this
theorem est_below {a : Nat} {lo hi : Nat} {B : Nat → Nat} {s : S} (k : ByteArray) (w : World) (h : IsSk w lo hi a B s) (hs : k.size ≤ maxLen) :
    Calls Try.prog 19 #[.pointer (some ⟨a, 0, none⟩), .string k] w fun e w' => e = .returned (.int .i64 (est s k.data.toList)) ∧ Below w.heap.size w w' :=
  (est_any k w h hs).mono fun _ _ ⟨he, n, hw⟩ => ⟨he, by subst hw; exact below_drewN (Below.refl _ _) n⟩
theorem added_below {a : Nat} {lo hi : Nat} {B : Nat → Nat} {s : S} (w : World) (h : IsSk w lo hi a B s) :
    Calls Try.prog 21 #[.pointer (some ⟨a, 0, none⟩)] w fun e w' => e = .returned (.int .i64 s.added) ∧ Below w.heap.size w w' :=
  (added_any w h).mono fun _ _ ⟨he, n, hw⟩ => ⟨he, by subst hw; exact below_drewN (Below.refl _ _) n⟩
/-- The sketch in the blocks from A on, the reference's in those from R on, its variable in block G. -/
structure Pair (w : World) (A R G : Nat) (B : Nat → Nat) (s : S) : Prop where
  a : IsSk w A (A + 6) (A + 1) (newB A) s
  b : IsRef w R B s
  g : Blk w G 37 (refV s.W B s.added)
  o : A + 6 ≤ R
  q : R ≤ G
  n : ∀ i, i ≤ 4 → B i ≠ G
theorem Pair.below {w w' : World} {A R G : Nat} {B : Nat → Nat} {s : S} (h : Pair w A R G B s) (hb : Below w.heap.size w w') : Pair w' A R G B s :=
  ⟨h.a.below hb h.a.hs, h.b.below hb, (hb.block _ h.g.lt).trans h.g, h.o, h.q, h.n⟩
theorem pair_next {w7 w8 w9 : World} {A R G : Nat} {B B' : Nat → Nat} {s t : S} (hA : IsSk w7 A (A + 6) (A + 1) (newB A) t) (hAR : A + 6 ≤ R) (hRG : R ≤ G) (hb8 : Below w7.heap.size w7 w8) (hb9 : Below R w8 w9) (hR9 : IsRef w9 R B' t) (hG9 : Blk w9 G 37 (refV s.W B s.added)) (e : t.added = s.added + 1) (eW : t.W = s.W) :
    Pair (w9.setRow G (refV s.W B' (s.added + 1))) A R G B' t :=
  ⟨((hA.below hb8 hA.hs).below hb9 hAR).kept (fun k _ hk => setRow_other _ _ _ _ (by omega)) (by rw [setRow_size]; have := (hA.below hb8 hA.hs).hs; have := hb9.size; omega),
    hR9.setRow (ref_ne hR9 hG9) _, by rw [e, eW]; exact setRow_heap _ _ _ _ _ _ hG9, hAR, hRG, ref_ne hR9 hG9⟩
theorem add_W (s : S) (l : List UInt8) : (add s l).W = s.W := by
  unfold add
  split
  · show (raw s l).W = _; rw [raw_W]
  · show (raw s l).W = _; rw [raw_W]
/-- What the region that asks both reads. -/
def SP (wr : World) (A R G : Nat) (B : Nat → Nat) (s : S) (w' : World) : Prop := Pair w' A R G B s ∧ Below wr.heap.size wr w' ∧
  w'.cell? ⟨G, 0, none⟩ = some (.int .i64 s.W) ∧ w'.cell? ⟨G, 1, none⟩ = some (.slice (some ⟨B 0, 0, none⟩) s.W s.W) ∧ w'.cell? ⟨G, 2, none⟩ = some (.slice (some ⟨B 1, 0, none⟩) s.W s.W) ∧ w'.cell? ⟨G, 3, none⟩ = some (.slice (some ⟨B 2, 0, none⟩) s.W s.W) ∧
  w'.cell? ⟨G, 4, none⟩ = some (.slice (some ⟨B 3, 0, none⟩) s.W s.W) ∧ w'.cell? ⟨G, 5, none⟩ = some (.slice (some ⟨B 4, 0, none⟩) s.W s.W) ∧ w'.cell? ⟨G, 6, none⟩ = some (.int .i64 s.added)
theorem SP.mk' {wr w' : World} {A R G : Nat} {B : Nat → Nat} {s : S} (h : Pair w' A R G B s) (hb : Below wr.heap.size wr w') : SP wr A R G B s w' :=
  ⟨h, hb, by rw [h.g.cell]; rfl, by rw [h.g.cell]; rfl, by rw [h.g.cell]; rfl, by rw [h.g.cell]; rfl, by rw [h.g.cell]; rfl, by rw [h.g.cell]; rfl, by rw [h.g.cell]; rfl⟩
theorem SP.below {wr w w' : World} {A R G : Nat} {B : Nat → Nat} {s : S} (hb : Below w.heap.size w w') (h : SP wr A R G B s w) : SP wr A R G B s w' :=
  SP.mk' (h.1.below hb) (h.2.1.trans (hb.mono h.2.1.size))
theorem SP.isA {wr w : World} {A R G : Nat} {B : Nat → Nat} {s : S} (h : SP wr A R G B s w) : IsSk w A (A + 6) (A + 1) (newB A) s := h.1.a
theorem SP.isB {wr w : World} {A R G : Nat} {B : Nat → Nat} {s : S} (h : SP wr A R G B s w) : IsRef w R B s := h.1.b
end Go.Proofs.Ytkcnnkbfnelfjaa
