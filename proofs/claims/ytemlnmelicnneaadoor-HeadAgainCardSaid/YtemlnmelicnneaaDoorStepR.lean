/-
  append at a step of a region that draws its order.
-/
import Derived.Test.YtemlnmelicnneaaDoorGLow
import Derived.Test.YtemlnmelicnneaaDoorGByt
import Derived.Deep.RegionLaw
namespace Go.Proofs.YtemlnmelicnneaaDoor
open Go.RowKit Syn

section
variable {P : Program}
/-- append of a slice that reads as news onto an owned row, at a step of a region that draws its order. -/
theorem stepR_push {ops : Array Oper} {o : Oper} {a : Act} {K : Act → World → Prop} {Q : Exit → Act → World → Prop} {E : Prop} {w : World} (t e : TypeId) (z : Value) (size bytes : Nat) (s x : Operand)
    (hgd : o.guard = none) (ho : o.op = .call { callee := .builtin .append, args := #[s, x], argTypes := #[t, t] })
    (ht : P.underlying t = some (.slice e)) (hi : (P.info? e).map (fun i => (i.zero, i.size, i.bytes)) = some (some z, size, bytes)) (hzs : z.cells.size = size) (hsz : 0 < size) (hby : bytes ≤ 1000)
    {B n m c : Nat} {v : Value} {xs news : List Value} {A : Option Addr} (hs : a.eval s = v) (hown : Own w B e size v n xs) (hx : a.eval x = .slice A m c) (hR : Rd w size (.slice A m c) m news)
    (h1 : ∀ u ∈ news, u.oneCell' = true) (hn : n + m ≤ 10000000000) (hB : B ≤ w.heap.size)
    (h : ∀ v' w', Own w' B e size v' (n + m) (xs ++ news) → w.grownBy w' v.ownBlock → K (a.put o.dst v') w') :
    if Region.wanted o (yielded ops a.tmps) = true then Oper.wp P o a w K Q else E := by
  have hwt : Region.wanted o (yielded ops a.tmps) = true := by simp [Region.wanted, hgd]
  rw [if_pos hwt]
  cases hP : P.info? e with
  | none => rw [hP] at hi; cases hi
  | some i =>
    rw [hP] at hi
    simp only [Option.map_some, Option.some.injEq, Prod.mk.injEq] at hi
    obtain ⟨hz, hsize, hbytes⟩ := hi
    have hbb : (n + m) * bytes ≤ 140737488355328 := Nat.le_trans (Nat.mul_le_mul hn hby) (by decide)
    obtain ⟨A', c', e', hc, hl, hr⟩ := hR
    cases e'
    cases A with
    | some ad =>
      have hcel : ∀ j u, news[j]? = some u → w.cell? (ad.add j) = some u := fun j u hu => by
        have hm : 0 < m := by
          rcases Nat.eq_zero_or_pos m with h0 | h0
          · subst h0
            rw [Nat.zero_mul] at hl
            rw [List.eq_nil_of_length_eq_zero hl] at hu; cases hu
          · exact h0
        obtain ⟨b, o', e1, hlt, hx'⟩ := hr hm
        cases e1
        have hadd : (⟨b, o', none⟩ : Addr).add j = ⟨b, o' + j, none⟩ := by unfold Addr.add; split <;> simp_all
        rw [hadd]; exact hx' j u hu
      obtain ⟨v', w', hr, h2, h3, h4, h5⟩ := run_append_own_at (P := P) w B t o.type e i z size bytes ht hP hz hsize hbytes hzs hsz v n xs hown ad m c news hl hcel h1 (by unfold maxLen; omega) hbb hB
      unfold Oper.wp execOp
      simp only [ho, resolve, invoke, builtin, Sem.run_bind, Sem.run_pure, Result.andThen_ok, List.map_toArray, List.map_cons, List.map_nil, hs, hx, hr]
      exact h v' w' h2 h3
    | none =>
      have hm : m = 0 := by
        rcases Nat.eq_zero_or_pos m with h0 | h0
        · exact h0
        · obtain ⟨b, o', e1, -⟩ := hr h0; cases e1
      subst hm
      rw [Nat.zero_mul] at hl
      have hnil := List.eq_nil_of_length_eq_zero hl
      subst hnil
      have hk := h v w (by rw [Nat.add_zero, List.append_nil]; exact hown) ⟨rfl, rfl, rfl, Nat.le_refl _, fun _ _ _ => rfl⟩
      obtain ⟨Av, cv, rfl, hcv, -, -⟩ := Rd.own hown
      have hrn := run_append_nilx (P := P) w t o.type e i ht hP Av n cv c hcv
      unfold Oper.wp execOp
      simp only [ho, resolve, invoke, builtin, Sem.run_bind, Sem.run_pure, Result.andThen_ok, List.map_toArray, List.map_cons, List.map_nil, hs, hx, hrn]
      exact hk
end
end Go.Proofs.YtemlnmelicnneaaDoor
