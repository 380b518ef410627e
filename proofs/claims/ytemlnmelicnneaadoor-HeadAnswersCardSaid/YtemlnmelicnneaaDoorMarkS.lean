/-
  A text appended to a row of bytes that a conversion has made.
-/
import Derived.Test.YtemlnmelicnneaaDoorMark
import Derived.Lib.AppendStr
namespace Go.Proofs.YtemlnmelicnneaaDoor
open Go.RowKit Syn Ck

theorem strCells_u8s (s : List UInt8) : Lib.strCells (str s) = u8s s := by unfold Lib.strCells u8s; simp [str]
/-- append of a text onto such a row: the run. -/
theorem run_pushSM (w : World) (ty : TypeId) {B : Nat} {v : Value} {L : List UInt8} (M : List UInt8) (hown : OwnM w B v L) (hn : L.length + M.length ≤ 10000000000) (hB : B ≤ w.heap.size) :
    ∃ v' w', (Builtin.append_ #[27, 9] ty #[v, .string (str M)]).run Tryd.prog w = .ok v' w' ∧ OwnM w' B v' (L ++ M) ∧ Below B w w' := by
  have hi := infoU8
  cases hP : Tryd.prog.info? 5 with
  | none => rw [hP] at hi; cases hi
  | some i =>
    rw [hP] at hi
    simp only [Option.map_some, Option.some.injEq, Prod.mk.injEq] at hi
    obtain ⟨hz, hsize, hbytes⟩ := hi
    have hsz := str_size M
    rcases id hown with ⟨rfl, rfl⟩ | ⟨g, cap, rfl, hB1, hg, hnc, hc, hf⟩
    · obtain ⟨v', w', hr, h2, h3, -⟩ := Lib.run_append_own_string (P := Tryd.prog) w B 27 9 ty 5 i Tryd.underlying27 Tryd.underlying9 hP hz hsize hbytes (.slice none 0 0) 0 [] (own_nil _ _ _ _) (str M) (by rw [hsz]; unfold maxLen; omega) (by rw [hsz]; omega) hB
      rw [hsz, strCells_u8s, List.nil_append, Nat.zero_add] at h2
      exact ⟨v', w', hr, .of h2, below_grown (own_nil w B 5 1) h3 hB⟩
    · by_cases hroom : L.length + M.length ≤ cap
      · have hfc := Lib.run_firstCells_string (P := Tryd.prog) w 1 (str M)
        have hst := run_storeCells_cells (P := Tryd.prog) g L.length (u8s M) 0 w (fun j hj => by rw [u8s_length] at hj; exact (hf _ (by omega) (by omega)).1) (fun j hj => by rw [u8s_length] at hj; exact (hf _ (by omega) (by omega)).2) (u8s_one M)
        simp only [Nat.add_zero] at hst
        have hr : (Builtin.append_ #[27, 9] ty #[.slice (some ⟨g, 0, none⟩) L.length cap, .string (str M)]).run Tryd.prog w = .ok (.slice (some ⟨g, 0, none⟩) (L.length + M.length) cap) (w.setCells g L.length (u8s M)) := by
          rw [hsz, strCells_u8s] at hfc
          simp [Builtin.append_, run_underlying Tryd.underlying27, run_underlying Tryd.underlying9, sizeOf, typeInfo, hP, hsize, Builtin.lenOf, hsz, hroom, hfc, Addr.add_lit, hst]
        refine ⟨_, _, hr, .inr ⟨g, cap, by rw [List.length_append], hB1, ?_, by rw [List.length_append]; exact hroom, fun j hj => ?_, fun j h1 h2 => ⟨?_, ?_⟩⟩, ?_⟩
        · rw [setCells_size]; exact hg
        · rw [List.length_append] at hj
          by_cases hjL : j < L.length
          · rw [World.cell?_setCells_out g (u8s M) L.length w ⟨g, j, none⟩ (fun _ _ => .inl hjL), hc j hjL, List.getElem_append_left hjL]
          · have e : j = L.length + (j - L.length) := by omega
            have h2 := World.cell?_setCells_in g (u8s M) L.length w (fun i hi => by rw [u8s_length] at hi; exact (hf _ (by omega) (by omega)).1) (j - L.length) (by rw [u8s_length]; omega)
            rw [← e] at h2
            rw [h2, List.getElem_append_right (by omega)]
            simp [u8s]
        · exact World.isSome_setCells g (u8s M) L.length w _ (hf j (by rw [List.length_append] at h1; omega) h2).1
        · rw [World.frozen?_setCells]; exact (hf j (by rw [List.length_append] at h1; omega) h2).2
        · exact setCells_below g hB1 _ _ _ (Below.refl _ _)
      · have holds : ∀ j u, (u8s L)[j]? = some u → w.cell? ((⟨g, 0, none⟩ : Addr).add j) = some u := fun j u hu => by
          have hadd : (⟨g, 0, none⟩ : Addr).add j = ⟨g, j, none⟩ := by unfold Addr.add; split <;> simp_all
          rw [hadd]
          by_cases hj : j < L.length
          · rw [hc j hj, ← u8s_at hj]; exact hu
          · rw [List.getElem?_eq_none (by rw [u8s_length]; omega)] at hu; cases hu
        have hfit : Builtin.nextslicecap (L.length + (str M).size) cap * i.bytes ≤ 281474976710656 := growslice_fits (by rw [hsz]; omega) (by rw [hsz, hbytes]; omega)
        have hr := Lib.run_append_grow_string (P := Tryd.prog) w 27 9 ty 5 i (.int .u8 0) Tryd.underlying27 Tryd.underlying9 hP hz ⟨g, 0, none⟩ L.length cap (u8s L) (by rw [u8s_length, hsize, Nat.mul_one]) holds (str M) (by rw [hsz]; omega) (by rw [hsz]; omega) hfit
        rw [hsz, strCells_u8s] at hr
        have hge := grownCap_ge w (L.length + M.length) cap 5
        have hb2 : Below B w (w.drew.alloc (.cells ((u8s L).toArray ++ (u8s M).toArray ++ Builtin.zeroCells (Value.int .u8 0).cells (grownCap w (L.length + M.length) cap 5 - (L.length + M.length))) 5)) := (below_drewN (Below.refl B w) 1).alloc hB _
        refine ⟨_, _, hr, .of ?_, hb2⟩
        have hlen : (u8s (L ++ M)).length = (L ++ M).length * 1 := by rw [u8s_length, Nat.mul_one]
        refine ⟨hlen, .inr ⟨w.heap.size, _, _, by rw [List.length_append], hB, heap_alloc_new w.drew _, by rw [List.length_append]; exact hge, grownCap_le_maxLen w (L.length + M.length) cap 5 (by unfold maxLen; omega), ?_, ?_⟩⟩
        · have hz1 : (Value.int IntKind.u8 0).cells.size = 1 := rfl
          simp only [Array.size_append, List.size_toArray, size_zeroCells, u8s_length, hz1]
          omega
        · simp only [Array.toList_append, List.append_assoc]
          rw [← List.append_assoc, ← u8s_app, ← hlen]
          exact List.take_left
/-- append of a text onto such a row. -/
theorem step_pushSM {ops : Array Oper} {rest : List Oper} {o : Oper} {a : Act} {Q : Exit → Act → World → Prop} {w : World} (s x : Operand)
    (hgd : o.guard = none) (ho : o.op = .call { callee := .builtin .append, args := #[s, x], argTypes := #[27, 9] })
    {B : Nat} {v : Value} {L : List UInt8} (M : List UInt8) {sx : ByteArray} (hown : OwnM w B v L) (hs : a.eval s = v) (hx : a.eval x = .string sx) (hm : sx = str M) (hn : L.length + M.length ≤ 10000000000) (hB : B ≤ w.heap.size)
    (h : ∀ v' w', OwnM w' B v' (L ++ M) → Below B w w' → wpList Tryd.prog ops Q rest (a.put o.dst v') w') : wpList Tryd.prog ops Q (o :: rest) a w := by
  refine wpList_plain hgd fun K hK => ?_
  subst hm
  obtain ⟨v', w', hr, h2, h3⟩ := run_pushSM w o.type M hown hn hB
  unfold Oper.wp execOp
  simp only [ho, resolve, invoke, builtin, Sem.run_bind, Sem.run_pure, Result.andThen_ok, List.map_toArray, List.map_cons, List.map_nil, hs, hx, hr]
  exact hK _ _ (h v' w' h2 h3)
end Go.Proofs.YtemlnmelicnneaaDoor
