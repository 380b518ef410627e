/-
  Rows of pairs of texts.
-/
import Derived.Test.YtemlnmelicnneaaDoorPush
import Derived.Test.YtemlnmelicnneaaDoorLow
import Derived.Laws.ResultCell
import Derived.Laws.Rows
namespace Go.Proofs.YtemlnmelicnneaaDoor
open Go.RowKit Syn

/-- The cells of names and values. -/
def prs (l : List (List UInt8 × List UInt8)) : List Value := l.flatMap fun p => [.string (str p.1), .string (str p.2)]
theorem prs_length (l : List (List UInt8 × List UInt8)) : (prs l).length = l.length * 2 := by
  induction l with
  | nil => rfl
  | cons a l ih =>
    have : prs (a :: l) = [.string (str a.1), .string (str a.2)] ++ prs l := by simp [prs]
    rw [this, List.length_append, ih, List.length_cons]; simp; omega
theorem prs_snoc (l : List (List UInt8 × List UInt8)) (p : List UInt8 × List UInt8) : prs (l ++ [p]) = prs l ++ [.string (str p.1), .string (str p.2)] := by simp [prs]
theorem prs_at0 : ∀ {l : List (List UInt8 × List UInt8)} {k : Nat} (h : k < l.length), (prs l)[k * 2]? = some (.string (str l[k].1))
  | p :: l, 0, _ => by simp [prs]
  | p :: l, k + 1, h => by
    have := prs_at0 (l := l) (k := k) (by simpa using h)
    rw [show (k + 1) * 2 = k * 2 + 1 + 1 from by omega]
    simpa [prs] using this
theorem prs_at1 : ∀ {l : List (List UInt8 × List UInt8)} {k : Nat} (h : k < l.length), (prs l)[k * 2 + 1]? = some (.string (str l[k].2))
  | p :: l, 0, _ => by simp [prs]
  | p :: l, k + 1, h => by
    have := prs_at1 (l := l) (k := k) (by simpa using h)
    rw [show (k + 1) * 2 + 1 = k * 2 + 1 + 1 + 1 from by omega]
    simpa [prs] using this
theorem alloc_size' (w : World) (o : Obj) : (w.alloc o).heap.size = w.heap.size + 1 := Array.size_push ..
/-- append of one pair of texts. -/
theorem push_pair (tS tE : TypeId) (ht : Tryd.prog.underlying tS = some (.slice tE)) (hi : (Tryd.prog.info? tE).map (fun i => (i.zero, i.size, i.bytes)) = some (some (.agg #[.string ⟨#[]⟩, .string ⟨#[]⟩]), 2, 32))
    {ops : Array Oper} {rest : List Oper} {o : Oper} {a : Act} {Q : Exit → Act → World → Prop} {w : World} (s x : Operand)
    (hgd : o.guard = none) (ho : o.op = .call { callee := .builtin .append, args := #[s, x], argTypes := #[tS, tS] })
    {B n : Nat} {v u1 u2 : Value} {xs : List Value} (hs : a.eval s = v) (hown : Own w B tE 2 v n xs) (hx : a.eval x = .slice (some ⟨w.heap.size, 0, none⟩) 1 1)
    (h1 : u1.oneCell' = true) (h2 : u2.oneCell' = true) (hn : n < 10000000000) (hbase : B ≤ w.heap.size)
    (h : ∀ v' w', Own w' B tE 2 v' (n + 1) (xs ++ [u1, u2]) → Below B w w' → wpList Tryd.prog ops Q rest (a.put o.dst v') w') : wpList Tryd.prog ops Q (o :: rest) a (w.alloc (.cells #[u1, u2] tE)) := by
  refine step_push tS tE (.agg #[.string ⟨#[]⟩, .string ⟨#[]⟩]) 2 32 s x hgd ho ht hi rfl (by decide) (by decide) hs (hown.alloc _) hx (news := [u1, u2]) rfl ?_ ?_ hn (by simp; omega) ?_
  · intro j u hj
    have hb := (Blk.new w tE #[u1, u2]).cell j
    have hadd : (⟨w.heap.size, 0, none⟩ : Addr).add j = ⟨w.heap.size, j, none⟩ := by unfold Addr.add; split <;> simp_all
    rw [hadd, hb]; simpa using hj
  · intro y hy
    rw [List.mem_cons, List.mem_singleton] at hy
    rcases hy with rfl | rfl
    · exact h1
    · exact h2
  · intro v' w' ho' hb _
    exact h v' w' ho' (((Below.refl B w).alloc hbase _).trans hb)
/-- A struct that lies in its own block, handed back by value. -/
theorem ret_blk {P : Program} {fn : Func} {p u : Tmp} {ty t : TypeId} {R : Ending → World → Prop} {a : Act} {w : World} {g : Nat} {cs : Array Value} {d : TypeDesc} (h : fn.results = #[.cell p ty, .tmp u])
    (hd0 : a.defers = []) (hp : a.tmps.getD p undef = .pointer (some ⟨g, 0, none⟩)) (hb : Blk w g t cs) (hu : P.underlying ty = some d) (hd : (match d with | .struct _ | .array _ _ => true | _ => false) = true)
    (hi : (P.info? ty).map (·.size) = some cs.size) (hR : R (.returned (.tuple #[.agg cs, a.tmps.getD u undef])) w) : bodyPost P fn R .ret a w := by
  refine bodyPost_ret ?_ hd0 hR
  rw [results_cell_tmp h, hp]
  simp [asAddr, Result.andThen, run_loadVar_row w g t ty cs (0, 0) d hb hu hd hi]
theorem Blk.two {w : World} {g : Nat} {t : TypeId} {x y : Value} (h : Blk w g t #[x, y]) (a b : Value) : Blk ((w.setCell ⟨g, 0, none⟩ a).setCell ⟨g, 1, none⟩ b) g t #[a, b] := (h.set_ 0 a).set_ 1 b
theorem two_below {w w1 : World} {G : Nat} (hG : w.heap.size = G) (h : Below G w w1) (a b : Value) : Below w.heap.size w ((w1.setCell ⟨G, 0, none⟩ a).setCell ⟨G, 1, none⟩ b) := by
  rw [hG]; exact (h.setCell (p := ⟨G, 0, none⟩) (Nat.le_refl _) a).setCell (p := ⟨G, 1, none⟩) (Nat.le_refl _) b
end Go.Proofs.YtemlnmelicnneaaDoor
