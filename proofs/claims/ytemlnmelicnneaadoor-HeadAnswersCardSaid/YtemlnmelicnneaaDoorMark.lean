/-
  A row of bytes that a conversion has made (its mark lies behind it), and rows that grow out of it.
-/
import Derived.Test.YtemlnmelicnneaaDoorBytes
import Derived.Test.YtemlnmelicnneaaDoorKp
import Derived.Test.YtemlnmelicnneaaDoorBasic
import Derived.Lib.ConvBytes
import Derived.Deep.MidRow
namespace Go.Proofs.YtemlnmelicnneaaDoor
open Go.RowKit Syn

/-- What a slice reads as bytes, as a text. -/
theorem run_rd_str {w : World} {A : Option Addr} {c : Nat} {l : List UInt8} (h : Rd w 1 (.slice A l.length c) l.length (u8s l)) :
    (convert 27 9 (.slice A l.length c)).run Tryd.prog w = Result.ok (Value.string (str l)) w := by
  obtain ⟨A', c', e', hc, hl, hr⟩ := h
  cases e'
  cases A with
  | none =>
    have h0 : l.length = 0 := by
      rcases Nat.eq_zero_or_pos l.length with h0 | h0
      · exact h0
      · obtain ⟨b, o, e, -⟩ := hr h0; cases e
    have := List.eq_nil_of_length_eq_zero h0
    subst this
    exact run_convert_bytes_nil w 27 5 Tryd.underlying27 Tryd.underlying5 0 c 9 Tryd.underlying9
  | some a =>
    refine run_convert_bytes_back w 27 9 5 a c l Tryd.underlying27 Tryd.underlying5 Tryd.underlying9 (fun j hj => ?_)
    obtain ⟨b, o, e, -, hx⟩ := hr (by omega)
    cases e
    have hadd : (⟨b, o, none⟩ : Addr).add j = ⟨b, o + j, none⟩ := by unfold Addr.add; split <;> simp_all
    rw [hadd]
    exact hx j _ (u8s_at hj)
namespace Ck
/-- A row of one's own, wherever its block's mark lies behind its end. -/
def OwnM (w : World) (B : Nat) (v : Value) (l : List UInt8) : Prop :=
  (v = .slice none 0 0 ∧ l = []) ∨
  ∃ g cap, v = .slice (some ⟨g, 0, none⟩) l.length cap ∧ B ≤ g ∧ g < w.heap.size ∧ l.length ≤ cap ∧ (∀ j (h : j < l.length), w.cell? ⟨g, j, none⟩ = some (.int .u8 (l[j].toNat : Int))) ∧
    (∀ j, l.length ≤ j → j < cap → (w.cell? ⟨g, j, none⟩).isSome = true ∧ w.frozen? ⟨g, j, none⟩ = false)
theorem OwnM.of {w : World} {B : Nat} {v : Value} {l : List UInt8} (h : Own w B 5 1 v l.length (u8s l)) : OwnM w B v l := by
  obtain ⟨hl, h⟩ := h
  rcases h with ⟨h1, h2⟩ | ⟨g, cap, cur, e, hB, hg, hn, hm, hs, ht⟩
  · exact .inl ⟨h1, List.eq_nil_of_length_eq_zero h2⟩
  · have hb : Blk w g 5 cur := hg
    rw [Nat.mul_one] at hs ht
    refine .inr ⟨g, cap, e, hB, hb.lt, hn, fun j hj => ?_, fun j h1 h2 => ⟨?_, hb.frozen j⟩⟩
    · rw [hb.cell j]
      have h1 := u8s_at hj
      rw [← ht, List.getElem?_take, if_pos (by omega), Array.getElem?_toList] at h1
      exact h1
    · rw [hb.cell j, Array.getElem?_eq_getElem (by omega)]; rfl
theorem OwnM.rd {w : World} {B : Nat} {v : Value} {l : List UInt8} (h : OwnM w B v l) : Rd w 1 v l.length (u8s l) := by
  rcases h with ⟨rfl, rfl⟩ | ⟨g, cap, rfl, hB, hg, hn, hc, -⟩
  · exact Rd.nil w 1
  · refine ⟨_, _, rfl, hn, by rw [u8s_length, Nat.mul_one], fun _ => ⟨g, 0, rfl, hg, fun j u hu => ?_⟩⟩
    rw [Nat.zero_add]
    by_cases hj : j < l.length
    · rw [hc j hj, ← u8s_at hj]; exact hu
    · rw [List.getElem?_eq_none (by rw [u8s_length]; omega)] at hu; cases hu
theorem OwnM.lt {w : World} {B : Nat} {v : Value} {l : List UInt8} (h : OwnM w B v l) {k : Nat} (hk : v.ownBlock = some k) : B ≤ k ∧ k < w.heap.size := by
  rcases h with ⟨rfl, rfl⟩ | ⟨g, cap, rfl, hB, hg, -⟩
  · cases hk
  · cases hk; exact ⟨hB, hg⟩
theorem frozen_below {w w' : World} {B : Nat} (h : Below B w w') {p : Addr} (hp : p.block < B) : w'.frozen? p = w.frozen? p := h.frozen hp
theorem OwnM.below {w w' : World} {B : Nat} {v : Value} {l : List UInt8} (h : OwnM w B v l) (hb : Below w.heap.size w w') : OwnM w' B v l := by
  rcases h with h | ⟨g, cap, rfl, hB, hg, hn, hc, hf⟩
  · exact .inl h
  · refine .inr ⟨g, cap, rfl, hB, Nat.lt_of_lt_of_le hg hb.size, hn, fun j hj => ?_, fun j h1 h2 => ⟨?_, ?_⟩⟩
    · rw [hb.cell (p := ⟨g, j, none⟩) hg]; exact hc j hj
    · rw [hb.cell (p := ⟨g, j, none⟩) hg]; exact (hf j h1 h2).1
    · rw [hb.frozen (p := ⟨g, j, none⟩) hg]; exact (hf j h1 h2).2
theorem OwnM.base {w : World} {B B' : Nat} {v : Value} {l : List UInt8} (h : OwnM w B v l) (hB : B' ≤ B) : OwnM w B' v l :=
  h.imp id (fun ⟨g, cap, h1, h2, h3⟩ => ⟨g, cap, h1, Nat.le_trans hB h2, h3⟩)
/-- The row that a conversion makes. -/
theorem OwnM.conv (w : World) (l : List UInt8) : OwnM (Lib.bytesWorld w 5 (str l)) w.heap.size (.slice (some ⟨w.heap.size, 0, none⟩) l.length (grownCap w l.length 0 5)) l := by
  have hnew := Lib.bytesWorld_at_new w 5 (str l)
  have hge := grownCap_ge w l.length 0 5
  have hsz : (Lib.bytesCells w 5 (str l)).size = grownCap w l.length 0 5 := by
    unfold Lib.bytesCells
    rw [Array.size_append, Array.size_map, Array.size_replicate]
    show l.length + _ = _
    rw [str_size]; omega
  refine .inr ⟨w.heap.size, _, rfl, Nat.le_refl _, by rw [Lib.bytesWorld_size]; omega, hge, fun j hj => ?_, fun j h1 h2 => ⟨?_, ?_⟩⟩
  · rw [Lib.bytesWorld_cell w 5 (str l) j (by rw [str_size]; exact hj)]
    show some (Value.int .u8 ((l.getD j 0).toNat : Int)) = _
    rw [List.getD_eq_getElem?_getD, List.getElem?_eq_getElem hj]; rfl
  · simp only [World.cell?, hnew]
    rw [Array.getElem?_eq_getElem (by omega)]
    rfl
  · simp only [World.frozen?, hnew]
    simp
    omega
theorem conv_below (w : World) (l : List UInt8) : Below w.heap.size w (Lib.bytesWorld w 5 (str l)) :=
  ⟨rfl, rfl, rfl, by rw [Lib.bytesWorld_size]; omega, fun k hk => Lib.bytesWorld_at_old w 5 (str l) k hk⟩
end Ck
open Ck
theorem setCells_size (g : Nat) : ∀ (vs : List Value) (o : Nat) (w : World), (w.setCells g o vs).heap.size = w.heap.size
  | [], _, _ => rfl
  | v :: r, o, _ => by rw [World.setCells, setCells_size g r (o + 1), size_setCell]
theorem setCells_below {B : Nat} {w0 : World} (g : Nat) (hB : B ≤ g) : ∀ (vs : List Value) (o : Nat) (w : World), Below B w0 w → Below B w0 (w.setCells g o vs)
  | [], _, _, h => h
  | v :: r, o, _, h => setCells_below g hB r (o + 1) _ (h.setCell (p := ⟨g, o, none⟩) hB v)
/-- append of bytes onto such a row: the run. -/
theorem run_push8M (w : World) (ty : TypeId) {B c m : Nat} {v : Value} {L : List UInt8} (M : List UInt8) {A : Option Addr} (hown : OwnM w B v L) (hm : M.length = m) (hR : Rd w 1 (.slice A m c) m (u8s M))
    (hn : L.length + m ≤ 10000000000) (hB : B ≤ w.heap.size) :
    ∃ v' w', (Builtin.append_ #[27, 27] ty #[v, .slice A m c]).run Tryd.prog w = .ok v' w' ∧ OwnM w' B v' (L ++ M) ∧ Below B w w' := by
  subst hm
  rcases id hown with ⟨rfl, rfl⟩ | ⟨g, cap, rfl, hB1, hg, hnc, hc, hf⟩
  · obtain ⟨v', w', hr, h2, h3, -⟩ := run_push8 w ty (B := B) (L := []) (own_nil w B 5 1) hR hn hB
    exact ⟨v', w', hr, .of h2, below_grown (own_nil w B 5 1) h3 hB⟩
  · have hi := infoU8
    cases hP : Tryd.prog.info? 5 with
    | none => rw [hP] at hi; cases hi
    | some i =>
      rw [hP] at hi
      simp only [Option.map_some, Option.some.injEq, Prod.mk.injEq] at hi
      obtain ⟨hz, hsize, hbytes⟩ := hi
      obtain ⟨A', c', e', hcc, hl, hr⟩ := hR
      cases e'
      cases A with
      | none =>
        have hm : M.length = 0 := by
          rcases Nat.eq_zero_or_pos M.length with h0 | h0
          · exact h0
          · obtain ⟨b, o', e1, -⟩ := hr h0; cases e1
        have hnil := List.eq_nil_of_length_eq_zero hm
        subst hnil
        refine ⟨_, w, run_append_nilx w 27 ty 5 i Tryd.underlying27 hP (some ⟨g, 0, none⟩) L.length cap c hnc, ?_, Below.refl _ _⟩
        rw [List.append_nil]
        exact hown
      | some ad =>
        have hcel : ∀ j u, (u8s M)[j]? = some u → w.cell? (ad.add j) = some u := fun j u hu => by
          have hm : 0 < M.length := by
            rcases Nat.eq_zero_or_pos M.length with h0 | h0
            · rw [List.eq_nil_of_length_eq_zero h0] at hu; cases hu
            · exact h0
          obtain ⟨b, o', e1, hlt, hx'⟩ := hr hm
          cases e1
          have hadd : (⟨b, o', none⟩ : Addr).add j = ⟨b, o' + j, none⟩ := by unfold Addr.add; split <;> simp_all
          rw [hadd]; exact hx' j u hu
        by_cases hroom : L.length + M.length ≤ cap
        · have hr := run_append_room_cells (P := Tryd.prog) w 27 ty 5 i Tryd.underlying27 hP g 0 L.length cap ad M.length c (u8s M) (by rw [u8s_length, hsize, Nat.mul_one]) hcel (u8s_one M) hroom
            (fun j hj => by rw [u8s_length] at hj; rw [hsize]; exact (hf _ (by omega) (by omega)).1) (fun j hj => by rw [u8s_length] at hj; rw [hsize]; exact (hf _ (by omega) (by omega)).2)
          rw [hsize, Nat.mul_one, Nat.zero_add] at hr
          refine ⟨_, _, hr, .inr ⟨g, cap, by rw [List.length_append], hB1, ?_, by rw [List.length_append]; exact hroom, fun j hj => ?_, fun j h1 h2 => ⟨?_, ?_⟩⟩, ?_⟩
          · rw [setCells_size]; exact hg
          · rw [List.length_append] at hj
            by_cases hjL : j < L.length
            · rw [World.cell?_setCells_out g (u8s M) L.length w ⟨g, j, none⟩ (fun _ _ => .inl hjL), hc j hjL, List.getElem_append_left hjL]
            · have e : j = L.length + (j - L.length) := by omega
              have h2 := World.cell?_setCells_in g (u8s M) L.length w (fun i hi => by rw [u8s_length] at hi; exact (hf _ (by omega) (by omega)).1) (j - L.length) (by rw [u8s_length]; omega)
              rw [← e] at h2
              rw [h2, List.getElem_append_right (by omega)]
              simp [u8s]
          · exact World.isSome_setCells g (u8s M) L.length w _ (hf j (by rw [List.length_append] at h1; omega) h2).1
          · rw [World.frozen?_setCells]; exact (hf j (by rw [List.length_append] at h1; omega) h2).2
          · exact setCells_below g hB1 _ _ _ (Below.refl _ _)
        · obtain ⟨v', w', hr2, h2, h3⟩ := run_append_arg_grows (P := Tryd.prog) w 27 ty 5 i (.int .u8 0) 1 1 Tryd.underlying27 hP hz hsize hbytes rfl (by decide) ⟨g, 0, none⟩ L.length cap (u8s L) (by rw [u8s_length, Nat.mul_one])
            (fun j u hu => by
              have hadd : (⟨g, 0, none⟩ : Addr).add j = ⟨g, j, none⟩ := by unfold Addr.add; split <;> simp_all
              rw [hadd]
              by_cases hj : j < L.length
              · rw [hc j hj, ← u8s_at hj]; exact hu
              · rw [List.getElem?_eq_none (by rw [u8s_length]; omega)] at hu; cases hu)
            ad M.length c (u8s M) (by rw [u8s_length, Nat.mul_one]) hcel (by omega) (by unfold maxLen; omega) (by omega)
          refine ⟨v', w', hr2, .of ?_, ⟨h3.os, h3.tape, h3.output, h3.size, fun k hk => h3.block k (by omega) (by simp)⟩⟩
          rw [List.length_append, u8s_app]
          exact Own.base h2 hB
/-- append of bytes onto such a row. -/
theorem step_pushM {ops : Array Oper} {rest : List Oper} {o : Oper} {a : Act} {Q : Exit → Act → World → Prop} {w : World} (s x : Operand)
    (hgd : o.guard = none) (ho : o.op = .call { callee := .builtin .append, args := #[s, x], argTypes := #[27, 27] })
    {B c m : Nat} {v : Value} {L : List UInt8} (M : List UInt8) {A : Option Addr} (hown : OwnM w B v L) (hs : a.eval s = v) (hx : a.eval x = .slice A m c) (hm : M.length = m) (hR : Rd w 1 (.slice A m c) m (u8s M)) (hn : L.length + m ≤ 10000000000) (hB : B ≤ w.heap.size)
    (h : ∀ v' w', OwnM w' B v' (L ++ M) → Below B w w' → wpList Tryd.prog ops Q rest (a.put o.dst v') w') : wpList Tryd.prog ops Q (o :: rest) a w := by
  refine wpList_plain hgd fun K hK => ?_
  obtain ⟨v', w', hr, h2, h3⟩ := run_push8M w o.type M hown hm hR hn hB
  unfold Oper.wp execOp
  simp only [ho, resolve, invoke, builtin, Sem.run_bind, Sem.run_pure, Result.andThen_ok, List.map_toArray, List.map_cons, List.map_nil, hs, hx, hr]
  exact hK _ _ (h v' w' h2 h3)
end Go.Proofs.YtemlnmelicnneaaDoor
