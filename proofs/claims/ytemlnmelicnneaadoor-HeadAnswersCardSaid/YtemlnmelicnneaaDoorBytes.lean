/-
  Rows of bytes: appends of what reads as bytes.
-/
import Derived.Test.YtemlnmelicnneaaDoorPush
import Derived.Test.YtemlnmelicnneaaDoorBasic
import Derived.Test.YtemlnmelicnneaaDoorSpec
import Derived.Maps.AppendAt
import Derived.ArgAppend
import Derived.Lib.AppendStr
import Derived.Deep.RegionLaw
import Derived.Deep.DrawnRows
namespace Go.Proofs.YtemlnmelicnneaaDoor
open Go.RowKit Syn

section
variable {P : Program}
/-- append onto an owned row from block B on. -/
theorem step_pushB {ops : Array Oper} {rest : List Oper} {o : Oper} {a : Act} {Q : Exit → Act → World → Prop} {w : World} (t e : TypeId) (z : Value) (size bytes : Nat) (s x : Operand)
    (hgd : o.guard = none) (ho : o.op = .call { callee := .builtin .append, args := #[s, x], argTypes := #[t, t] })
    (ht : P.underlying t = some (.slice e)) (hi : (P.info? e).map (fun i => (i.zero, i.size, i.bytes)) = some (some z, size, bytes)) (hzs : z.cells.size = size) (hsz : 0 < size) (hby : bytes ≤ 1000)
    {B n m c : Nat} {v : Value} {xs news : List Value} {ad : Addr} (hs : a.eval s = v) (hown : Own w B e size v n xs) (hx : a.eval x = .slice (some ad) m c) (hl : news.length = m * size)
    (hnews : ∀ j u, news[j]? = some u → w.cell? (ad.add j) = some u) (h1 : ∀ u ∈ news, u.oneCell' = true) (hn : n + m ≤ 10000000000) (hB : B ≤ w.heap.size)
    (h : ∀ v' w', Own w' B e size v' (n + m) (xs ++ news) → w.grownBy w' v.ownBlock → (v'.ownBlock = v.ownBlock ∨ v'.ownBlock = some w.heap.size) → wpList P ops Q rest (a.put o.dst v') w') : wpList P ops Q (o :: rest) a w := by
  cases hP : P.info? e with
  | none => rw [hP] at hi; cases hi
  | some i =>
    rw [hP] at hi
    simp only [Option.map_some, Option.some.injEq, Prod.mk.injEq] at hi
    obtain ⟨hz, hsize, hbytes⟩ := hi
    have hbb : (n + m) * bytes ≤ 140737488355328 := Nat.le_trans (Nat.mul_le_mul hn hby) (by decide)
    refine wpList_append_own_at w hgd s x t ho B e i z size bytes ht hP hz hsize hbytes hzs hsz v n xs hs hown ad m c news hx hl hnews h1 (by unfold maxLen; omega) hbb hB ?_
    intro v' w' hown' hg _ hat
    exact h v' w' hown' hg hat
end
theorem u8s_one (l : List UInt8) : ∀ u ∈ u8s l, u.oneCell' = true := by
  intro u hu
  unfold u8s at hu
  rw [List.mem_map] at hu
  obtain ⟨x, -, rfl⟩ := hu
  rfl
theorem u8s_app (a b : List UInt8) : u8s (a ++ b) = u8s a ++ u8s b := by simp [u8s]
theorem u8s_at {l : List UInt8} {k : Nat} (h : k < l.length) : (u8s l)[k]? = some (.int .u8 (l[k].toNat : Int)) := by simp [u8s, h]
section
variable {P : Program}
theorem run_append_nilx (w : World) (t ty e : TypeId) (i : TypeInfo) (ht : P.underlying t = some (.slice e)) (hi : P.info? e = some i) (A : Option Addr) (n cap c : Nat) (hn : n ≤ cap) :
    (Builtin.append_ #[t, t] ty #[.slice A n cap, .slice none 0 c]).run P w = .ok (.slice A n cap) w := by
  cases A <;> simp [Builtin.append_, run_underlying ht, sizeOf, typeInfo, hi, Builtin.lenOf, Builtin.firstCells, hn, storeCells]
/-- append of a slice that reads as news onto an owned row. -/
theorem step_pushR {ops : Array Oper} {rest : List Oper} {o : Oper} {a : Act} {Q : Exit → Act → World → Prop} {w : World} (t e : TypeId) (z : Value) (size bytes : Nat) (s x : Operand)
    (hgd : o.guard = none) (ho : o.op = .call { callee := .builtin .append, args := #[s, x], argTypes := #[t, t] })
    (ht : P.underlying t = some (.slice e)) (hi : (P.info? e).map (fun i => (i.zero, i.size, i.bytes)) = some (some z, size, bytes)) (hzs : z.cells.size = size) (hsz : 0 < size) (hby : bytes ≤ 1000)
    {B n m c : Nat} {v : Value} {xs news : List Value} {A : Option Addr} (hs : a.eval s = v) (hown : Own w B e size v n xs) (hx : a.eval x = .slice A m c) (hR : Rd w size (.slice A m c) m news)
    (h1 : ∀ u ∈ news, u.oneCell' = true) (hn : n + m ≤ 10000000000) (hB : B ≤ w.heap.size)
    (h : ∀ v' w', Own w' B e size v' (n + m) (xs ++ news) → w.grownBy w' v.ownBlock → (v'.ownBlock = v.ownBlock ∨ v'.ownBlock = some w.heap.size) → wpList P ops Q rest (a.put o.dst v') w') : wpList P ops Q (o :: rest) a w := by
  obtain ⟨A', c', e', hc, hl, hr⟩ := hR
  cases e'
  cases A with
  | some ad =>
    refine step_pushB t e z size bytes s x hgd ho ht hi hzs hsz hby hs hown hx hl (fun j u hu => ?_) h1 hn hB h
    have hm : 0 < m := by
      rcases Nat.eq_zero_or_pos m with h0 | h0
      · subst h0
        rw [Nat.zero_mul] at hl
        rw [List.eq_nil_of_length_eq_zero hl] at hu; cases hu
      · exact h0
    obtain ⟨b, o', e1, hlt, hx'⟩ := hr hm
    cases e1
    have hadd : (⟨b, o', none⟩ : Addr).add j = ⟨b, o' + j, none⟩ := by unfold Addr.add; split <;> simp_all
    rw [hadd]; exact hx' j u hu
  | none =>
    have hm : m = 0 := by
      rcases Nat.eq_zero_or_pos m with h0 | h0
      · exact h0
      · obtain ⟨b, o', e1, -⟩ := hr h0; cases e1
    subst hm
    rw [Nat.zero_mul] at hl
    have hnil := List.eq_nil_of_length_eq_zero hl
    subst hnil
    have hk := h v w (by rw [Nat.add_zero, List.append_nil]; exact hown) ⟨rfl, rfl, rfl, Nat.le_refl _, fun _ _ _ => rfl⟩ (.inl rfl)
    obtain ⟨Av, cv, rfl, hcv, -, -⟩ := Rd.own hown
    cases hP : P.info? e with
    | none => rw [hP] at hi; cases hi
    | some i =>
      refine wpList_plain hgd fun K hK => ?_
      have hrn := run_append_nilx (P := P) w t o.type e i ht hP Av n cv c hcv
      unfold Oper.wp execOp
      simp only [ho, resolve, invoke, builtin, Sem.run_bind, Sem.run_pure, Result.andThen_ok, List.map_toArray, List.map_cons, List.map_nil, hs, hx, hrn]
      exact hK _ _ hk
end
/-- append of a slice that reads as bytes onto an owned row: the run. -/
theorem run_push8 (w : World) (ty : TypeId) {B c : Nat} {v : Value} {L M : List UInt8} {A : Option Addr} (hown : Own w B 5 1 v L.length (u8s L)) (hR : Rd w 1 (.slice A M.length c) M.length (u8s M))
    (hn : L.length + M.length ≤ 10000000000) (hB : B ≤ w.heap.size) :
    ∃ v' w', (Builtin.append_ #[27, 27] ty #[v, .slice A M.length c]).run Tryd.prog w = .ok v' w' ∧ Own w' B 5 1 v' (L ++ M).length (u8s (L ++ M)) ∧ w.grownBy w' v.ownBlock ∧ (v'.ownBlock = v.ownBlock ∨ v'.ownBlock = some w.heap.size) := by
  have hi := infoU8
  cases hP : Tryd.prog.info? 5 with
  | none => rw [hP] at hi; cases hi
  | some i =>
    rw [hP] at hi
    simp only [Option.map_some, Option.some.injEq, Prod.mk.injEq] at hi
    obtain ⟨hz, hsize, hbytes⟩ := hi
    obtain ⟨A', c', e', hc, hl, hr⟩ := hR
    cases e'
    cases A with
    | some ad =>
      have hcel : ∀ j u, (u8s M)[j]? = some u → w.cell? (ad.add j) = some u := fun j u hu => by
        have hm : 0 < M.length := by
          rcases Nat.eq_zero_or_pos M.length with h0 | h0
          · rw [List.eq_nil_of_length_eq_zero h0] at hu; cases hu
          · exact h0
        obtain ⟨b, o', e1, hlt, hx'⟩ := hr hm
        cases e1
        have hadd : (⟨b, o', none⟩ : Addr).add j = ⟨b, o' + j, none⟩ := by unfold Addr.add; split <;> simp_all
        rw [hadd]; exact hx' j u hu
      obtain ⟨v', w', hr, h2, h3, h4, h5⟩ := run_append_own_at (P := Tryd.prog) w B 27 ty 5 i (.int .u8 0) 1 1 Tryd.underlying27 hP hz hsize hbytes rfl (by decide) v L.length (u8s L) hown ad M.length c (u8s M) (by rw [u8s_length, Nat.mul_one]) hcel (u8s_one M) (by unfold maxLen; omega) (by omega) hB
      refine ⟨v', w', hr, ?_, h3, h5⟩
      rw [List.length_append, u8s_app]
      exact h2
    | none =>
      have hm : M.length = 0 := by
        rcases Nat.eq_zero_or_pos M.length with h0 | h0
        · exact h0
        · obtain ⟨b, o', e1, -⟩ := hr h0; cases e1
      have hnil := List.eq_nil_of_length_eq_zero hm
      subst hnil
      obtain ⟨Av, cv, rfl, hcv, -, -⟩ := Rd.own hown
      refine ⟨_, w, run_append_nilx w 27 ty 5 i Tryd.underlying27 hP Av L.length cv c hcv, ?_, ⟨rfl, rfl, rfl, Nat.le_refl _, fun _ _ _ => rfl⟩, .inl rfl⟩
      rw [List.append_nil]
      exact hown
/-- A piece of a slice that reads as bytes. -/
theorem Rd.part {w : World} {b o n cap : Nat} {l : List UInt8} (h : Rd w 1 (.slice (some ⟨b, o, none⟩) n cap) n (u8s l)) (i m cap' : Nat) (hm : i + m ≤ n) (hc : m ≤ cap') :
    ((l.drop i).take m).length = m ∧ Rd w 1 (.slice (some ⟨b, o + i, none⟩) m cap') m (u8s ((l.drop i).take m)) := by
  obtain ⟨A', c', e', hcp, hl', hr⟩ := h
  cases e'
  rw [u8s_length, Nat.mul_one] at hl'
  have hlen : ((l.drop i).take m).length = m := by rw [List.length_take, List.length_drop]; omega
  refine ⟨hlen, _, _, rfl, hc, by rw [u8s_length, hlen, Nat.mul_one], fun hm0 => ?_⟩
  obtain ⟨b1, o1, e1, hlt, hx⟩ := hr (by omega)
  cases e1
  refine ⟨b, o + i, rfl, hlt, fun j u hu => ?_⟩
  have hj : j < m := by
    rcases Nat.lt_or_ge j m with h1 | h1
    · exact h1
    · rw [List.getElem?_eq_none (by rw [u8s_length, hlen]; omega)] at hu; cases hu
  rw [Nat.add_assoc]
  refine hx (i + j) u ?_
  rw [← hu]
  unfold u8s
  rw [List.getElem?_map, List.getElem?_map, List.getElem?_take, if_pos hj, List.getElem?_drop]
theorem Rd.one8 {w : World} {g : Nat} {c : UInt8} {t : TypeId} (h : Blk w g t #[.int .u8 (c.toNat : Int)]) : Rd w 1 (.slice (some ⟨g, 0, none⟩) 1 1) 1 (u8s [c]) :=
  ⟨_, _, rfl, Nat.le_refl _, rfl, fun _ => ⟨g, 0, rfl, h.lt, fun j u hu => by rw [Nat.zero_add, h.cell j]; simpa [u8s] using hu⟩⟩
theorem Blk.grown8 {w w' : World} {g : Nat} {t : TypeId} {cs : Array Value} {row : Option Nat} (h : Blk w g t cs) (hg : w.grownBy w' row) (hne : row ≠ some g) : Blk w' g t cs := (hg.block g h.lt (Ne.symm hne)).trans h
/-- append of bytes onto an owned row, at an operation that is guarded. -/
theorem step_push8W {ops : Array Oper} {rest : List Oper} {o : Oper} {a : Act} {Q : Exit → Act → World → Prop} {w : World} (s x : Operand)
    (hw : Region.wanted o (yielded ops a.tmps) = true) (ho : o.op = .call { callee := .builtin .append, args := #[s, x], argTypes := #[27, 27] })
    {B c : Nat} {v : Value} {L M : List UInt8} {A : Option Addr} (hs : a.eval s = v) (hown : Own w B 5 1 v L.length (u8s L)) (hx : a.eval x = .slice A M.length c) (hR : Rd w 1 (.slice A M.length c) M.length (u8s M)) (hn : L.length + M.length ≤ 10000000000) (hB : B ≤ w.heap.size)
    (h : ∀ v' w', Own w' B 5 1 v' (L ++ M).length (u8s (L ++ M)) → w.grownBy w' v.ownBlock → (v'.ownBlock = v.ownBlock ∨ v'.ownBlock = some w.heap.size) → wpList Tryd.prog ops Q rest (a.put o.dst v') w') : wpList Tryd.prog ops Q (o :: rest) a w := by
  refine wpList_step fun K hK => ?_
  rw [if_pos hw]
  obtain ⟨v', w', hr, h2, h3, h4⟩ := run_push8 w o.type hown hR hn hB
  unfold Oper.wp execOp
  simp only [ho, resolve, invoke, builtin, Sem.run_bind, Sem.run_pure, Result.andThen_ok, List.map_toArray, List.map_cons, List.map_nil, hs, hx, hr]
  exact hK _ _ (h v' w' h2 h3 h4)
/-- append of bytes onto an owned row, in a region that draws its order. -/
theorem stepR_pushW {ops : Array Oper} {o : Oper} {a : Act} {K : Act → World → Prop} {Q : Exit → Act → World → Prop} {E : Prop} {w : World} (s x : Operand)
    (hgd : o.guard = none) (ho : o.op = .call { callee := .builtin .append, args := #[s, x], argTypes := #[27, 27] })
    {v : Value} {B c m : Nat} {L : List UInt8} (M : List UInt8) {A : Option Addr} (hown : Own w B 5 1 v L.length (u8s L)) (hs : a.eval s = v) (hx : a.eval x = .slice A m c) (hm : M.length = m) (hR : Rd w 1 (.slice A m c) m (u8s M)) (hn : L.length + m ≤ 10000000000) (hB : B ≤ w.heap.size)
    (h : ∀ v' w', Own w' B 5 1 v' (L ++ M).length (u8s (L ++ M)) → Below B w w' → K (a.put o.dst v') w') :
    if Region.wanted o (yielded ops a.tmps) = true then Oper.wp Tryd.prog o a w K Q else E := by
  have hwt : Region.wanted o (yielded ops a.tmps) = true := by simp [Region.wanted, hgd]
  rw [if_pos hwt]
  subst hm
  obtain ⟨v', w', hr, h2, h3, h4⟩ := run_push8 w o.type hown hR hn hB
  unfold Oper.wp execOp
  simp only [ho, resolve, invoke, builtin, Sem.run_bind, Sem.run_pure, Result.andThen_ok, List.map_toArray, List.map_cons, List.map_nil, hs, hx, hr]
  exact h v' w' h2 (below_grown hown h3 hB)
/-- .. of a text. -/
theorem stepR_strW {ops : Array Oper} {o : Oper} {a : Act} {K : Act → World → Prop} {Q : Exit → Act → World → Prop} {E : Prop} {w : World} (sl x : Operand)
    (hgd : o.guard = none) (ho : o.op = .call { callee := .builtin .append, args := #[sl, x], argTypes := #[27, 9] })
    {v : Value} {B : Nat} {L s : List UInt8} (hown : Own w B 5 1 v L.length (u8s L)) (hs : a.eval sl = v) (hx : a.eval x = .string (str s)) (hn : L.length + s.length ≤ 10000000000) (hB : B ≤ w.heap.size)
    (h : ∀ v' w', Own w' B 5 1 v' (L ++ s).length (u8s (L ++ s)) → Below B w w' → K (a.put o.dst v') w') :
    if Region.wanted o (yielded ops a.tmps) = true then Oper.wp Tryd.prog o a w K Q else E := by
  have hwt : Region.wanted o (yielded ops a.tmps) = true := by simp [Region.wanted, hgd]
  rw [if_pos hwt]
  have hi := infoU8
  cases hP : Tryd.prog.info? 5 with
  | none => rw [hP] at hi; cases hi
  | some i =>
    rw [hP] at hi
    simp only [Option.map_some, Option.some.injEq, Prod.mk.injEq] at hi
    obtain ⟨hz, hsize, hbytes⟩ := hi
    obtain ⟨v', w', hr, h2, h3, -⟩ := Lib.run_append_own_string (P := Tryd.prog) w B 27 9 o.type 5 i Tryd.underlying27 Tryd.underlying9 hP hz hsize hbytes v L.length (u8s L) hown (str s) (by rw [str_size]; unfold maxLen; omega) (by rw [str_size]; omega) hB
    unfold Oper.wp execOp
    simp only [ho, resolve, invoke, builtin, Sem.run_bind, Sem.run_pure, Result.andThen_ok, List.map_toArray, List.map_cons, List.map_nil, hs, hx, hr]
    refine h v' w' ?_ (below_grown hown h3 hB)
    have e : Lib.strCells (str s) = u8s s := by unfold Lib.strCells u8s; simp [str]
    rw [List.length_append, u8s_app, ← e]
    exact h2
end Go.Proofs.YtemlnmelicnneaaDoor
