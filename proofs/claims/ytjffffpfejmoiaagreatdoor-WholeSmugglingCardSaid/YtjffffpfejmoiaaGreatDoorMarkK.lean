/-
  append onto a row that a conversion has made: only its own block turns.
-/
import Derived.Test.YtjffffpfejmoiaaGreatDoorGByt
namespace Go.Proofs.YtjffffpfejmoiaaGreatDoor
open Go.RowKit Syn Ck
theorem setCells_kp {F : Nat → Prop} {a : World} (g : Nat) (hF : g < a.heap.size → F g) : ∀ (vs : List Value) (o : Nat) (w : World), Kp F a w → Kp F a (w.setCells g o vs)
  | [], _, _, h => h
  | v :: r, o, _, h => setCells_kp g hF r (o + 1) _ (h.set_ hF o v)
/-- append of bytes onto such a row: the run. -/
theorem run_push8MK (w : World) (ty : TypeId) {B c m : Nat} {v : Value} {L : List UInt8} (M : List UInt8) {A : Option Addr} (hown : OwnM w B v L) (hm : M.length = m) (hR : Rd w 1 (.slice A m c) m (u8s M))
    (hn : L.length + m ≤ 10000000000) (hB : B ≤ w.heap.size) :
    ∃ v' w', (Builtin.append_ #[23, 23] ty #[v, .slice A m c]).run Tryz.prog w = .ok v' w' ∧ OwnM w' B v' (L ++ M) ∧ Kp (fun k => v.ownBlock = some k) w w' := by
  subst hm
  rcases id hown with ⟨rfl, rfl⟩ | ⟨g, cap, rfl, hB1, hg, hnc, hc, hf⟩
  · obtain ⟨v', w', hr, h2, h3, -⟩ := run_push8 w ty (B := B) (L := []) (own_nil w B 5 1) hR hn hB
    exact ⟨v', w', hr, .of h2, (Kp.refl _ w).grown h3 (fun k e _ => e)⟩
  · have hi := infoU8
    cases hP : Tryz.prog.info? 5 with
    | none => rw [hP] at hi; cases hi
    | some i =>
      rw [hP] at hi
      simp only [Option.map_some, Option.some.injEq, Prod.mk.injEq] at hi
      obtain ⟨hz, hsize, hbytes⟩ := hi
      obtain ⟨A', c', e', hcc, hl, hr⟩ := hR
      cases e'
      cases A with
      | none =>
        have hm : M.length = 0 := by
          rcases Nat.eq_zero_or_pos M.length with h0 | h0
          · exact h0
          · obtain ⟨b, o', e1, -⟩ := hr h0; cases e1
        have hnil := List.eq_nil_of_length_eq_zero hm
        subst hnil
        refine ⟨_, w, run_append_nilx w 23 ty 5 i Tryz.underlying23 hP (some ⟨g, 0, none⟩) L.length cap c hnc, ?_, Kp.refl _ _⟩
        rw [List.append_nil]
        exact hown
      | some ad =>
        have hcel : ∀ j u, (u8s M)[j]? = some u → w.cell? (ad.add j) = some u := fun j u hu => by
          have hm : 0 < M.length := by
            rcases Nat.eq_zero_or_pos M.length with h0 | h0
            · rw [List.eq_nil_of_length_eq_zero h0] at hu; cases hu
            · exact h0
          obtain ⟨b, o', e1, hlt, hx'⟩ := hr hm
          cases e1
          have hadd : (⟨b, o', none⟩ : Addr).add j = ⟨b, o' + j, none⟩ := by unfold Addr.add; split <;> simp_all
          rw [hadd]; exact hx' j u hu
        by_cases hroom : L.length + M.length ≤ cap
        · have hr := run_append_room_cells (P := Tryz.prog) w 23 ty 5 i Tryz.underlying23 hP g 0 L.length cap ad M.length c (u8s M) (by rw [u8s_length, hsize, Nat.mul_one]) hcel (u8s_one M) hroom
            (fun j hj => by rw [u8s_length] at hj; rw [hsize]; exact (hf _ (by omega) (by omega)).1) (fun j hj => by rw [u8s_length] at hj; rw [hsize]; exact (hf _ (by omega) (by omega)).2)
          rw [hsize, Nat.mul_one, Nat.zero_add] at hr
          refine ⟨_, _, hr, .inr ⟨g, cap, by rw [List.length_append], hB1, ?_, by rw [List.length_append]; exact hroom, fun j hj => ?_, fun j h1 h2 => ⟨?_, ?_⟩⟩, ?_⟩
          · rw [setCells_size]; exact hg
          · rw [List.length_append] at hj
            by_cases hjL : j < L.length
            · rw [World.cell?_setCells_out g (u8s M) L.length w ⟨g, j, none⟩ (fun _ _ => .inl hjL), hc j hjL, List.getElem_append_left hjL]
            · have e : j = L.length + (j - L.length) := by omega
              have h2 := World.cell?_setCells_in g (u8s M) L.length w (fun i hi => by rw [u8s_length] at hi; exact (hf _ (by omega) (by omega)).1) (j - L.length) (by rw [u8s_length]; omega)
              rw [← e] at h2
              rw [h2, List.getElem_append_right (by omega)]
              simp [u8s]
          · exact World.isSome_setCells g (u8s M) L.length w _ (hf j (by rw [List.length_append] at h1; omega) h2).1
          · rw [World.frozen?_setCells]; exact (hf j (by rw [List.length_append] at h1; omega) h2).2
          · exact setCells_kp (F := fun k => (Value.slice (some ⟨g, 0, none⟩) L.length cap).ownBlock = some k) g (fun _ => rfl) _ _ _ (Kp.refl _ _)
        · obtain ⟨v', w', hr2, h2, h3⟩ := run_append_arg_grows (P := Tryz.prog) w 23 ty 5 i (.int .u8 0) 1 1 Tryz.underlying23 hP hz hsize hbytes rfl (by decide) ⟨g, 0, none⟩ L.length cap (u8s L) (by rw [u8s_length, Nat.mul_one])
            (fun j u hu => by
              have hadd : (⟨g, 0, none⟩ : Addr).add j = ⟨g, j, none⟩ := by unfold Addr.add; split <;> simp_all
              rw [hadd]
              by_cases hj : j < L.length
              · rw [hc j hj, ← u8s_at hj]; exact hu
              · rw [List.getElem?_eq_none (by rw [u8s_length]; omega)] at hu; cases hu)
            ad M.length c (u8s M) (by rw [u8s_length, Nat.mul_one]) hcel (by omega) (by unfold maxLen; omega) (by omega)
          refine ⟨v', w', hr2, .of ?_, ⟨h3.os, h3.tape, h3.output, h3.size, fun k hk _ => h3.block k hk (by simp)⟩⟩
          rw [List.length_append, u8s_app]
          exact Own.base h2 hB
/-- append of bytes onto such a row. -/
theorem step_pushMK {ops : Array Oper} {rest : List Oper} {o : Oper} {a : Act} {Q : Exit → Act → World → Prop} {w : World} (s x : Operand)
    (hgd : o.guard = none) (ho : o.op = .call { callee := .builtin .append, args := #[s, x], argTypes := #[23, 23] })
    {B c m : Nat} {v : Value} {L : List UInt8} (M : List UInt8) {A : Option Addr} (hown : OwnM w B v L) (hs : a.eval s = v) (hx : a.eval x = .slice A m c) (hm : M.length = m) (hR : Rd w 1 (.slice A m c) m (u8s M)) (hn : L.length + m ≤ 10000000000) (hB : B ≤ w.heap.size)
    (h : ∀ v' w', OwnM w' B v' (L ++ M) → Kp (fun k => v.ownBlock = some k) w w' → wpList Tryz.prog ops Q rest (a.put o.dst v') w') : wpList Tryz.prog ops Q (o :: rest) a w := by
  refine wpList_plain hgd fun K hK => ?_
  obtain ⟨v', w', hr, h2, h3⟩ := run_push8MK w o.type M hown hm hR hn hB
  unfold Oper.wp execOp
  simp only [ho, resolve, invoke, builtin, Sem.run_bind, Sem.run_pure, Result.andThen_ok, List.map_toArray, List.map_cons, List.map_nil, hs, hx, hr]
  exact hK _ _ (h v' w' h2 h3)
end Go.Proofs.YtjffffpfejmoiaaGreatDoor
