/-
  append of one element onto a row of the call's own.
-/
import Derived.Test.YtjjbeahdoblacaaBasic
import Derived.Deep.AppendLies
import Derived.Laws.IdiomStrings
import Derived.Laws.BytesArg
import Derived.Laws.OwnMore
namespace Go.Proofs.Ytjjbeahdoblacaa
open Go.RowKit

/-- The row of a slice that the call owns: the elements' cells. -/
abbrev Own (w : World) (B : Nat) (e : TypeId) (sz : Nat) (v : Value) (n : Nat) (xs : List Value) : Prop := w.ownsRow B e sz v n xs
theorem own_below {w w' : World} {B sz n : Nat} {e : TypeId} {v : Value} {xs : List Value} (h : Own w B e sz v n xs) (hb : Below w.heap.size w w') : Own w' B e sz v n xs := by
  obtain ⟨hl, h⟩ := h
  refine ⟨hl, ?_⟩
  rcases h with h | ⟨g, cap, cur, e1, h1, hg, h2⟩
  · exact .inl h
  · refine .inr ⟨g, cap, cur, e1, h1, ?_, h2⟩
    have : g < w.heap.size := by
      rcases Nat.lt_or_ge g w.heap.size with h | h
      · exact h
      · rw [Array.getElem?_eq_none h] at hg; cases hg
    rw [hb.block g this]; exact hg
theorem own_drewN {w : World} {B sz n : Nat} {e : TypeId} {v : Value} {xs : List Value} (h : Own w B e sz v n xs) (m : Nat) : Own (w.drewN m) B e sz v n xs := h
theorem own_nil (w : World) (B : Nat) (e : TypeId) (sz : Nat) : Own w B e sz (.slice none 0 0) 0 [] := World.ownsRow_nil w B e sz
theorem below_grown {w w' : World} {B sz n : Nat} {e : TypeId} {v : Value} {xs : List Value} (h : Own w B e sz v n xs) (hg : w.grownBy w' v.ownBlock) (hB : B ≤ w.heap.size) : Below B w w' :=
  (Below.refl B w).grown hg hB fun k hk => (h.lt k hk).1

section
variable {P : Program}
/-- append of the m elements of a block onto an owned row. -/
theorem step_push {ops : Array Oper} {rest : List Oper} {o : Oper} {a : Act} {Q : Exit → Act → World → Prop} {w : World} (t e : TypeId) (z : Value) (size bytes : Nat) (s x : Operand)
    (hgd : o.guard = none) (ho : o.op = .call { callee := .builtin .append, args := #[s, x], argTypes := #[t, t] })
    (ht : P.underlying t = some (.slice e)) (hi : (P.info? e).map (fun i => (i.zero, i.size, i.bytes)) = some (some z, size, bytes)) (hzs : z.cells.size = size) (hsz : 0 < size) (hby : bytes ≤ 1000)
    {B n m c : Nat} {v : Value} {xs news : List Value} {ad : Addr} (hs : a.eval s = v) (hown : Own w B e size v n xs) (hx : a.eval x = .slice (some ad) m c) (hl : news.length = m * size)
    (hnews : ∀ j u, news[j]? = some u → w.cell? (ad.add j) = some u) (h1 : ∀ u ∈ news, u.oneCell' = true) (hn : n + m ≤ 10000000000) (hbase : B ≤ w.heap.size)
    (h : ∀ v' w', Own w' B e size v' (n + m) (xs ++ news) → Below B w w' → (v'.ownBlock = v.ownBlock ∨ v'.ownBlock = some w.heap.size) → wpList P ops Q rest (a.put o.dst v') w') : wpList P ops Q (o :: rest) a w := by
  cases hP : P.info? e with
  | none => rw [hP] at hi; cases hi
  | some i =>
    rw [hP] at hi
    simp only [Option.map_some, Option.some.injEq, Prod.mk.injEq] at hi
    obtain ⟨hz, hsize, hbytes⟩ := hi
    have hbb : (n + m) * bytes ≤ 140737488355328 := Nat.le_trans (Nat.mul_le_mul hn hby) (by decide)
    refine wpList_append_own_at w hgd s x t ho B e i z size bytes ht hP hz hsize hbytes hzs hsz v n xs hs hown ad m c news hx hl hnews h1 (by unfold maxLen; omega) hbb hbase ?_
    intro v' w' hown' hg _ hat
    exact h v' w' hown' (below_grown hown hg hbase) hat
end
theorem infoU8 : (Try.prog.info? 5).map (fun i => (i.zero, i.size, i.bytes)) = some (some (.int .u8 0), 1, 1) := by kernel_rfl
theorem infoStr : (Try.prog.info? 9).map (fun i => (i.zero, i.size, i.bytes)) = some (some (.string ⟨#[]⟩), 1, 16) := by kernel_rfl
/-- append of one byte. -/
theorem push_u8 {ops : Array Oper} {rest : List Oper} {o : Oper} {a : Act} {Q : Exit → Act → World → Prop} {w : World} (s x : Operand)
    (hgd : o.guard = none) (ho : o.op = .call { callee := .builtin .append, args := #[s, x], argTypes := #[48, 48] })
    {B n : Nat} {v u : Value} {xs : List Value} (hs : a.eval s = v) (hown : Own w B 5 1 v n xs) (hx : a.eval x = .slice (some ⟨w.heap.size, 0, none⟩) 1 1)
    (h1 : u.oneCell' = true) (hn : n < 10000000000) (hbase : B ≤ w.heap.size)
    (h : ∀ v' w', Own w' B 5 1 v' (n + 1) (xs ++ [u]) → Below B w w' → wpList Try.prog ops Q rest (a.put o.dst v') w') : wpList Try.prog ops Q (o :: rest) a (w.alloc (.cells #[u] 5)) := by
  refine step_push 48 5 (.int .u8 0) 1 1 s x hgd ho Try.underlying48 infoU8 rfl (by decide) (by decide) hs (hown.alloc _) hx (news := [u]) rfl (cell_one_new _ _ _) ?_ hn (by simp; omega) ?_
  · intro y hy; rw [List.mem_singleton] at hy; rw [hy]; exact h1
  · intro v' w' ho' hb _
    exact h v' w' ho' (((Below.refl B w).alloc hbase _).trans hb)
/-- append of one text. -/
theorem push_str {ops : Array Oper} {rest : List Oper} {o : Oper} {a : Act} {Q : Exit → Act → World → Prop} {w : World} (s x : Operand)
    (hgd : o.guard = none) (ho : o.op = .call { callee := .builtin .append, args := #[s, x], argTypes := #[29, 29] })
    {B n : Nat} {v u : Value} {xs : List Value} (hs : a.eval s = v) (hown : Own w B 9 1 v n xs) (hx : a.eval x = .slice (some ⟨w.heap.size, 0, none⟩) 1 1)
    (h1 : u.oneCell' = true) (hn : n < 10000000000) (hbase : B ≤ w.heap.size)
    (h : ∀ v' w', Own w' B 9 1 v' (n + 1) (xs ++ [u]) → Below B w w' → wpList Try.prog ops Q rest (a.put o.dst v') w') : wpList Try.prog ops Q (o :: rest) a (w.alloc (.cells #[u] 9)) := by
  refine step_push 29 9 (.string ⟨#[]⟩) 1 16 s x hgd ho Try.underlying29 infoStr rfl (by decide) (by decide) hs (hown.alloc _) hx (news := [u]) rfl (cell_one_new _ _ _) ?_ hn (by simp; omega) ?_
  · intro y hy; rw [List.mem_singleton] at hy; rw [hy]; exact h1
  · intro v' w' ho' hb _
    exact h v' w' ho' (((Below.refl B w).alloc hbase _).trans hb)

/-- The bytes' cells. -/
def u8s (l : List UInt8) : List Value := l.map fun c => .int .u8 (c.toNat : Int)
theorem u8s_length (l : List UInt8) : (u8s l).length = l.length := by simp [u8s]
theorem u8s_snoc (l : List UInt8) (c : UInt8) : u8s (l ++ [c]) = u8s l ++ [.int .u8 (c.toNat : Int)] := by simp [u8s]
theorem strs_snoc (l : List (List UInt8)) (c : List UInt8) : strs (l ++ [c]) = strs l ++ [.string (str c)] := by simp [strs]
/-- string(b) of an owned row of bytes. -/
theorem run_own_str {w : World} {B : Nat} {v : Value} {l : List UInt8} (h : Own w B 5 1 v l.length (u8s l)) :
    (convert 48 9 v).run Try.prog w = Result.ok (Value.string (str l)) w := by
  rcases Nat.eq_zero_or_pos l.length with h0 | hp
  · have hl : l = [] := List.eq_nil_of_length_eq_zero h0
    subst hl
    obtain ⟨_, h⟩ := h
    rcases h with ⟨rfl, _⟩ | ⟨g, cap, cur, rfl, _⟩
    · exact run_convert_bytes_nil w 48 5 Try.underlying48 Try.underlying5 0 0 9 Try.underlying9
    · exact run_convert_bytes_arg w 48 5 Try.underlying48 Try.underlying5 g 0 0 cap [] rfl (fun i hi => by omega) 9 Try.underlying9
  · obtain ⟨g, cap, rfl, _, _⟩ := h.form hp
    exact run_convert_bytes_back w 48 9 5 ⟨g, 0, none⟩ cap l Try.underlying48 Try.underlying5 Try.underlying9 (fun j hj => h.cells (g := g) rfl j _ (by simp [u8s, hj]))
end Go.Proofs.Ytjjbeahdoblacaa
