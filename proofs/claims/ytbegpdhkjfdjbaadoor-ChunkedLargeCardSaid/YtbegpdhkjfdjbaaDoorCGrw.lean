/-
  A row of bytes that grows by appends, in plain regions and in such as draw their order.
-/
import Derived.Test.YtbegpdhkjfdjbaaDoorCCutI
import Derived.Deep.RegionLaw
import Derived.Deep.DrawnRows
namespace Go.Proofs.YtbegpdhkjfdjbaaDoor
open Go.RowKit Syn Ck

/-- append of a slice that reads as bytes onto an owned row: the run. -/
theorem run_push8 (w : World) (ty : TypeId) {B c : Nat} {v : Value} {L M : List UInt8} {A : Option Addr} (hown : Own w B 5 1 v L.length (u8s L)) (hR : Rd w 1 (.slice A M.length c) M.length (u8s M))
    (hn : L.length + M.length ≤ 10000000000) (hB : B ≤ w.heap.size) :
    ∃ v' w', (Builtin.append_ #[30, 30] ty #[v, .slice A M.length c]).run Tryd.prog w = .ok v' w' ∧ Own w' B 5 1 v' (L ++ M).length (u8s (L ++ M)) ∧ w.grownBy w' v.ownBlock ∧ (v'.ownBlock = v.ownBlock ∨ v'.ownBlock = some w.heap.size) := by
  have hi := infoU8
  cases hP : Tryd.prog.info? 5 with
  | none => rw [hP] at hi; cases hi
  | some i =>
    rw [hP] at hi
    simp only [Option.map_some, Option.some.injEq, Prod.mk.injEq] at hi
    obtain ⟨hz, hsize, hbytes⟩ := hi
    obtain ⟨A', c', e', hc, hl, hr⟩ := hR
    cases e'
    cases A with
    | some ad =>
      have hcel : ∀ j u, (u8s M)[j]? = some u → w.cell? (ad.add j) = some u := fun j u hu => by
        have hm : 0 < M.length := by
          rcases Nat.eq_zero_or_pos M.length with h0 | h0
          · rw [List.eq_nil_of_length_eq_zero h0] at hu; cases hu
          · exact h0
        obtain ⟨b, o', e1, hlt, hx'⟩ := hr hm
        cases e1
        have hadd : (⟨b, o', none⟩ : Addr).add j = ⟨b, o' + j, none⟩ := by unfold Addr.add; split <;> simp_all
        rw [hadd]; exact hx' j u hu
      obtain ⟨v', w', hr, h2, h3, h4, h5⟩ := run_append_own_at (P := Tryd.prog) w B 30 ty 5 i (.int .u8 0) 1 1 Tryd.underlying30 hP hz hsize hbytes rfl (by decide) v L.length (u8s L) hown ad M.length c (u8s M) (by rw [u8s_length, Nat.mul_one]) hcel (u8s_one M) (by unfold maxLen; omega) (by omega) hB
      refine ⟨v', w', hr, ?_, h3, h5⟩
      rw [List.length_append, u8s_app]
      exact h2
    | none =>
      have hm : M.length = 0 := by
        rcases Nat.eq_zero_or_pos M.length with h0 | h0
        · exact h0
        · obtain ⟨b, o', e1, -⟩ := hr h0; cases e1
      have hnil := List.eq_nil_of_length_eq_zero hm
      subst hnil
      obtain ⟨Av, cv, rfl, hcv, -, -⟩ := Rd.own hown
      refine ⟨_, w, run_append_nilx w 30 ty 5 i Tryd.underlying30 hP Av L.length cv c hcv, ?_, ⟨rfl, rfl, rfl, Nat.le_refl _, fun _ _ _ => rfl⟩, .inl rfl⟩
      rw [List.append_nil]
      exact hown
namespace Ck
/-- A row v that has grown out of v0 since the world w0. -/
structure Grw (w0 : World) (v0 : Value) (B : Nat) (v : Value) (L : List UInt8) (w : World) : Prop where
  own : Own w B 5 1 v L.length (u8s L)
  kp : Kp (fun j => v0.ownBlock = some j) w0 w
  at_ : ∀ j, v.ownBlock = some j → v0.ownBlock = some j ∨ w0.heap.size ≤ j
  le : B ≤ w0.heap.size
theorem Grw.init {w : World} {B : Nat} {v : Value} {L : List UInt8} (h : Own w B 5 1 v L.length (u8s L)) (hB : B ≤ w.heap.size) : Grw w v B v L w :=
  ⟨h, Kp.refl _ _, fun _ h => .inl h, hB⟩
theorem Grw.drew {w0 w : World} {B : Nat} {v0 v : Value} {L : List UInt8} (h : Grw w0 v0 B v L w) : Grw w0 v0 B v L w.drew := ⟨h.own, h.kp.drew, h.at_, h.le⟩
theorem Grw.alloc {w0 w : World} {B : Nat} {v0 v : Value} {L : List UInt8} (h : Grw w0 v0 B v L w) (o : Obj) : Grw w0 v0 B v L (w.alloc o) := ⟨World.ownsRow.alloc h.own o, h.kp.alloc o, h.at_, h.le⟩
theorem Grw.size {w0 w : World} {B : Nat} {v0 v : Value} {L : List UInt8} (h : Grw w0 v0 B v L w) : B ≤ w.heap.size := Nat.le_trans h.le h.kp.size
theorem Grw.push {w0 w w' : World} {B : Nat} {v0 v v' : Value} {L M : List UInt8} (h : Grw w0 v0 B v L w) (ho : Own w' B 5 1 v' (L ++ M).length (u8s (L ++ M))) (hg : w.grownBy w' v.ownBlock) (hat : v'.ownBlock = v.ownBlock ∨ v'.ownBlock = some w.heap.size) : Grw w0 v0 B v' (L ++ M) w' :=
  ⟨ho, h.kp.grown hg (fun k hk hlt => (h.at_ k hk).elim id (fun h2 => absurd h2 (by omega))),
    fun j hj => by
      rcases hat with e | e
      · exact h.at_ j (e ▸ hj)
      · have := h.kp.size
        rw [e] at hj
        cases hj
        exact .inr this, h.le⟩
theorem Grw.below {w0 w : World} {B : Nat} {v0 v : Value} {L : List UInt8} (h : Grw w0 v0 B v L w) (hv : ∀ k, v0.ownBlock = some k → B ≤ k) : Below B w0 w := h.kp.toBelow h.le hv
end Ck
/-- append of bytes onto such a row, in a region that draws its order. -/
theorem stepR_grw {ops : Array Oper} {o : Oper} {a : Act} {K : Act → World → Prop} {Q : Exit → Act → World → Prop} {E : Prop} {w : World} (s x : Operand)
    (hgd : o.guard = none) (ho : o.op = .call { callee := .builtin .append, args := #[s, x], argTypes := #[30, 30] })
    {w0 : World} {v0 v : Value} {B c m : Nat} {L : List UInt8} (M : List UInt8) {A : Option Addr} (hG : Grw w0 v0 B v L w) (hs : a.eval s = v) (hx : a.eval x = .slice A m c) (hm : M.length = m) (hR : Rd w 1 (.slice A m c) m (u8s M)) (hn : L.length + m ≤ 10000000000)
    (h : ∀ v' w', Grw w0 v0 B v' (L ++ M) w' → w.grownBy w' v.ownBlock → K (a.put o.dst v') w') :
    if Region.wanted o (yielded ops a.tmps) = true then Oper.wp Tryd.prog o a w K Q else E := by
  have hwt : Region.wanted o (yielded ops a.tmps) = true := by simp [Region.wanted, hgd]
  rw [if_pos hwt]
  subst hm
  obtain ⟨v', w', hr, h2, h3, h4⟩ := run_push8 w o.type hG.own hR hn hG.size
  unfold Oper.wp execOp
  simp only [ho, resolve, invoke, builtin, Sem.run_bind, Sem.run_pure, Result.andThen_ok, List.map_toArray, List.map_cons, List.map_nil, hs, hx, hr]
  exact h v' w' (hG.push h2 h3 h4) h3
/-- append of bytes onto such a row. -/
theorem step_grw {ops : Array Oper} {rest : List Oper} {o : Oper} {a : Act} {Q : Exit → Act → World → Prop} {w : World} (s x : Operand)
    (hgd : o.guard = none) (ho : o.op = .call { callee := .builtin .append, args := #[s, x], argTypes := #[30, 30] })
    {w0 : World} {v0 v : Value} {B c m : Nat} {L : List UInt8} (M : List UInt8) {A : Option Addr} (hG : Grw w0 v0 B v L w) (hs : a.eval s = v) (hx : a.eval x = .slice A m c) (hm : M.length = m) (hR : Rd w 1 (.slice A m c) m (u8s M)) (hn : L.length + m ≤ 10000000000)
    (h : ∀ v' w', Grw w0 v0 B v' (L ++ M) w' → w.grownBy w' v.ownBlock → wpList Tryd.prog ops Q rest (a.put o.dst v') w') : wpList Tryd.prog ops Q (o :: rest) a w := by
  refine wpList_plain hgd fun K hK => ?_
  subst hm
  obtain ⟨v', w', hr, h2, h3, h4⟩ := run_push8 w o.type hG.own hR hn hG.size
  unfold Oper.wp execOp
  simp only [ho, resolve, invoke, builtin, Sem.run_bind, Sem.run_pure, Result.andThen_ok, List.map_toArray, List.map_cons, List.map_nil, hs, hx, hr]
  exact hK _ _ (h v' w' (hG.push h2 h3 h4) h3)
/-- A piece of a slice that reads as bytes. -/
theorem Rd.part {w : World} {b o n cap : Nat} {l : List UInt8} (h : Rd w 1 (.slice (some ⟨b, o, none⟩) n cap) n (u8s l)) (i m cap' : Nat) (hm : i + m ≤ n) (hc : m ≤ cap') :
    ((l.drop i).take m).length = m ∧ Rd w 1 (.slice (some ⟨b, o + i, none⟩) m cap') m (u8s ((l.drop i).take m)) := by
  obtain ⟨A', c', e', hcp, hl', hr⟩ := h
  cases e'
  rw [u8s_length, Nat.mul_one] at hl'
  have hlen : ((l.drop i).take m).length = m := by rw [List.length_take, List.length_drop]; omega
  refine ⟨hlen, _, _, rfl, hc, by rw [u8s_length, hlen, Nat.mul_one], fun hm0 => ?_⟩
  obtain ⟨b1, o1, e1, hlt, hx⟩ := hr (by omega)
  cases e1
  refine ⟨b, o + i, rfl, hlt, fun j u hu => ?_⟩
  have hj : j < m := by
    rcases Nat.lt_or_ge j m with h1 | h1
    · exact h1
    · rw [List.getElem?_eq_none (by rw [u8s_length, hlen]; omega)] at hu; cases hu
  rw [Nat.add_assoc]
  refine hx (i + j) u ?_
  rw [← hu]
  unfold u8s
  rw [List.getElem?_map, List.getElem?_map, List.getElem?_take, if_pos hj, List.getElem?_drop]
theorem Rd.one8 {w : World} {g : Nat} {c : UInt8} {t : TypeId} (h : Blk w g t #[.int .u8 (c.toNat : Int)]) : Rd w 1 (.slice (some ⟨g, 0, none⟩) 1 1) 1 (u8s [c]) :=
  ⟨_, _, rfl, Nat.le_refl _, rfl, fun _ => ⟨g, 0, rfl, h.lt, fun j u hu => by rw [Nat.zero_add, h.cell j]; simpa [u8s] using hu⟩⟩
theorem Blk.grown8 {w w' : World} {g : Nat} {t : TypeId} {cs : Array Value} {row : Option Nat} (h : Blk w g t cs) (hg : w.grownBy w' row) (hne : row ≠ some g) : Blk w' g t cs := (hg.block g h.lt (Ne.symm hne)).trans h
end Go.Proofs.YtbegpdhkjfdjbaaDoor
