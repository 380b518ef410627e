/-
  A row of slices of texts, each a row of the call's own; what stays when a node is removed.
-/
import Derived.Test.YtjjbeahdoblacaaRgOrdP
import Derived.Test.YtjjbeahdoblacaaRgMem
namespace Go.Proofs.Ytjjbeahdoblacaa
open Go.RowKit Rg
namespace Rg
theorem perm_less : ∀ {L : List Nd}, (L.map (·.1)).Nodup → ∀ {y : Nd}, y ∈ L → L.Perm (y :: L.filter fun z => decide (z.1 ≠ y.1))
  | [], _, _, h => by cases h
  | z :: L, hn, y, h => by
    rw [List.map_cons, List.nodup_cons] at hn
    rcases List.mem_cons.1 h with rfl | h
    · rw [List.filter_cons_of_neg (by simp), List.filter_eq_self.2 (fun p hp => by
        simp only [decide_eq_true_eq]
        exact fun e => hn.1 (List.mem_map.2 ⟨p, hp, e⟩))]
    · have hne : z.1 ≠ y.1 := fun e => hn.1 (List.mem_map.2 ⟨y, h, e.symm⟩)
      rw [List.filter_cons_of_pos (by simpa using hne)]
      exact (List.Perm.cons z (perm_less hn.2 h)).trans (List.Perm.swap y z _)
def less (L : List Nd) (x : Nm) : List Nd := L.filter fun z => decide (z.1 ≠ x)
theorem less_good {L : List Nd} (hg : Good L) (x : Nm) : Good (less L x) :=
  ⟨List.Nodup.sublist (List.Sublist.map _ List.filter_sublist) hg.nd, fun y hy => hg.wt y (List.mem_filter.1 hy).1⟩
theorem less_not {L : List Nd} (x : Nm) : x ∉ (less L x).map (·.1) := fun h => by
  obtain ⟨y, hy, e⟩ := List.mem_map.1 h
  have := (List.mem_filter.1 hy).2
  simp only [decide_eq_true_eq] at this
  exact this e
theorem less_len {L : List Nd} (x : Nm) : (less L x).length ≤ L.length := List.length_filter_le _ _
theorem less_names {L : List Nd} (hg : Good L) {y : Nd} (hy : y ∈ L) : (ascOf L).eraseIdx (pos (ascOf L) y.1) = ascOf (less L y.1) :=
  erase_names (x := y.1) (n := y.2) hg (less_good hg _) (perm_less hg.nd hy)
theorem less_pts {L : List Nd} (hg : Good L) (x : Nm) : offN x (ptsOf L) = ptsOf (less L x) := offN_ptsOf hg x
theorem less_own {L : List Nd} (hg : Good L) (x : Nm) (h : Int) : (own (ptsOf L) h).filter (fun y => decide (y ≠ x)) = own (ptsOf (less L x)) h := own_less (fun y hy => (hg.wt y hy).1) x h
theorem fold_ge : ∀ (l : List (Nat × Nat)) (L : List Nd), L.length ≤ (l.foldl stepL L).length
  | [], _ => Nat.le_refl _
  | x :: r, L => Nat.le_trans (by unfold stepL; split <;> simp) (fold_ge r (stepL L x))
theorem mkL_pos {l : List (Nat × Nat)} (h : 0 < l.length) : 0 < (mkL l).length := by
  cases l with
  | nil => cases h
  | cons x r => exact Nat.lt_of_lt_of_le (by unfold stepL; simp) (fold_ge r (stepL [] x))
end Rg
theorem infoRow : (Try.prog.info? 29).map (fun i => (i.zero, i.size, i.bytes)) = some (some (.slice Option.none 0 0), 1, 24) := by kernel_rfl
/-- A row of n-long rows, each the f of its key. -/
def Rows (w : World) (B : Nat) (o : Value) (keys : List Nm) (f : Nm → List Nm) (n : Nat) : Prop :=
  ∃ us : List Value, Own w B 29 1 o keys.length us ∧ ∀ j, (hj : j < keys.length) → ∃ A c, us[j]? = some (.slice A n c) ∧ Own w B 9 1 (.slice A n c) n (strs (f keys[j]))
theorem Rows.nil (w : World) (B : Nat) (f : Nm → List Nm) (n : Nat) : Rows w B (.slice Option.none 0 0) [] f n := ⟨[], own_nil _ _ _ _, fun j hj => absurd hj (Nat.not_lt_zero j)⟩
theorem Rows.below {w w' : World} {B n : Nat} {o : Value} {keys : List Nm} {f : Nm → List Nm} (h : Rows w B o keys f n) (hb : Below w.heap.size w w') : Rows w' B o keys f n := by
  obtain ⟨us, ho, hu⟩ := h
  refine ⟨us, own_below ho hb, fun j hj => ?_⟩
  obtain ⟨A, c, e, h⟩ := hu j hj
  exact ⟨A, c, e, own_below h hb⟩
theorem own_off {w : World} {B sz n : Nat} {e : TypeId} {v : Value} {xs : List Value} (h : Own w B e sz v n xs) {F : Nat → Prop} (hF : ∀ b, F b → b < B) : Off F v := fun k hk hf => by
  have := (World.ownsRow.lt h k hk).1
  have := hF k hf
  omega
theorem Rows.kp {w w' : World} {B n : Nat} {o : Value} {keys : List Nm} {f : Nm → List Nm} (h : Rows w B o keys f n) {F : Nat → Prop} (hF : ∀ b, F b → b < B) (hk : Kp F w w') : Rows w' B o keys f n := by
  obtain ⟨us, ho, hu⟩ := h
  refine ⟨us, Own.kp ho (own_off ho hF) hk, fun j hj => ?_⟩
  obtain ⟨A, c, e, h⟩ := hu j hj
  exact ⟨A, c, e, Own.kp h (own_off h hF) hk⟩
/-- append of one row. -/
theorem push_row {ops : Array Oper} {rest : List Oper} {o : Oper} {a : Act} {Q : Exit → Act → World → Prop} {w : World} (s x : Operand)
    (hgd : o.guard = none) (ho : o.op = .call { callee := .builtin .append, args := #[s, x], argTypes := #[54, 54] })
    {B n c : Nat} {v : Value} {A : Option Addr} {keys : List Nm} {f : Nm → List Nm} (key : Nm) (hs : a.eval s = v) (hr : Rows w B v keys f n) (hx : a.eval x = .slice (some ⟨w.heap.size, 0, none⟩) 1 1)
    (hu : Own w B 9 1 (.slice A n c) n (strs (f key))) (hn : keys.length < 10000000000) (hbase : B ≤ w.heap.size)
    (h : ∀ v' w', Rows w' B v' (keys ++ [key]) f n → Below B w w' → wpList Try.prog ops Q rest (a.put o.dst v') w') : wpList Try.prog ops Q (o :: rest) a (w.alloc (.cells #[.slice A n c] 29)) := by
  obtain ⟨us, hown, hus⟩ := hr
  have hb1 : Below w.heap.size w (w.alloc (.cells #[.slice A n c] 29)) := (Below.refl _ _).alloc (Nat.le_refl _) _
  cases hP : Try.prog.info? 29 with
  | none => have := infoRow; rw [hP] at this; cases this
  | some i =>
    have hi := infoRow
    rw [hP] at hi
    simp only [Option.map_some, Option.some.injEq, Prod.mk.injEq] at hi
    obtain ⟨hz, hsize, hbytes⟩ := hi
    refine wpList_append_own_at (w.alloc (.cells #[.slice A n c] 29)) hgd s x 54 ho B 29 i _ 1 24 Try.underlying54 hP hz hsize hbytes rfl (by decide) v keys.length us hs (hown.alloc _) _ 1 1 [.slice A n c] hx rfl (cell_one_new _ _ _) ?_ (by unfold maxLen; omega) (by omega) (by simp; omega) ?_
    · intro y hy; rw [List.mem_singleton] at hy; rw [hy]; rfl
    intro v' w' hown' hg _ hat
    have hk : Kp (fun b => v.ownBlock = some b) (w.alloc (.cells #[.slice A n c] 29)) w' := (Kp.refl _ _).grown hg (fun k e _ => e)
    refine h v' w' ⟨us ++ [.slice A n c], by rw [List.length_append]; exact hown', fun j hj => ?_⟩ (((Below.refl B w).alloc hbase _).trans (below_grown (hown.alloc _) hg (by simp; omega)))
    have hlu : us.length = keys.length := by have := hown.1; omega
    by_cases hjk : j < keys.length
    · obtain ⟨A1, c1, e1, h1⟩ := hus j hjk
      refine ⟨A1, c1, by rw [List.getElem?_append_left (by omega)]; exact e1, ?_⟩
      rw [List.getElem_append_left hjk]
      refine Own.kp (own_below h1 hb1) (fun k hk hF => ?_) hk
      exact Own.apart h1 hown (by decide) hk hF
    · have hj2 : j = keys.length := by rw [List.length_append, List.length_singleton] at hj; omega
      subst hj2
      refine ⟨A, c, by rw [← hlu, List.getElem?_append_right (Nat.le_refl _)]; simp, ?_⟩
      rw [List.getElem_append_right (Nat.le_refl _)]
      simp only [Nat.sub_self, List.getElem_cons_zero]
      refine Own.kp (own_below hu hb1) (fun k hk hF => ?_) hk
      exact Own.apart hu hown (by decide) hk hF
end Go.Proofs.Ytjjbeahdoblacaa
