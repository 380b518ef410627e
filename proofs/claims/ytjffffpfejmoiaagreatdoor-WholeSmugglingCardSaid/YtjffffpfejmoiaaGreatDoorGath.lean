/-
  The whole: gathered, the requests of events.
-/
import Derived.Test.YtjffffpfejmoiaaGreatDoorNEv
import Derived.Test.YtjffffpfejmoiaaGreatDoorDMem
import Derived.Test.YtjffffpfejmoiaaGreatDoorDJoin
import Derived.Deep.RegionHeld3
import Derived.Deep.AppendLies
namespace Go.Proofs.YtjffffpfejmoiaaGreatDoor
open Go.RowKit Syn Hd Fr Ck
namespace Cn
structure Rq where
  m : List UInt8
  t : List UInt8
  fl : Flds
  body : List UInt8
  ended : Bool
def gath (o : List Rq) (e : Ev) : List Rq :=
  if e.kind = 1 then o ++ [⟨e.m, e.t, e.rf, [], false⟩] else match o.getLast? with
    | none => o
    | some r => o.dropLast ++ [if e.kind = 2 then { r with body := r.body ++ e.data } else { r with ended := true }]
def gathered (l : List Ev) : List Rq := l.foldl gath []
theorem gath_head {o : List Rq} {e : Ev} (h : e.kind = 1) : gath o e = o ++ [⟨e.m, e.t, e.rf, [], false⟩] := if_pos h
theorem gath_none {e : Ev} (h : e.kind ≠ 1) : gath [] e = [] := if_neg h
theorem gath_data {o : List Rq} {r : Rq} {e : Ev} (h : e.kind = 2) : gath (o ++ [r]) e = o ++ [{ r with body := r.body ++ e.data }] := by
  unfold gath
  rw [if_neg (by omega), List.getLast?_append, List.getLast?_singleton, List.dropLast_concat]
  simp [h]
theorem gath_end {o : List Rq} {r : Rq} {e : Ev} (h1 : e.kind ≠ 1) (h2 : e.kind ≠ 2) : gath (o ++ [r]) e = o ++ [{ r with ended := true }] := by
  unfold gath
  rw [if_neg h1, List.getLast?_append, List.getLast?_singleton, List.dropLast_concat]
  simp [h2]
theorem gathered_snoc (l : List Ev) (e : Ev) : gathered (l ++ [e]) = gath (gathered l) e := by
  unfold gathered
  rw [List.foldl_append]; rfl
theorem gath_cnt (o : List Rq) (e : Ev) : (gath o e).length ≤ o.length + 1 := by
  rcases List.eq_nil_or_concat o with rfl | ⟨i, r, rfl⟩
  · by_cases h : e.kind = 1
    · rw [gath_head h]; simp
    · rw [gath_none h]; simp
  · rw [List.concat_eq_append]
    by_cases h : e.kind = 1
    · rw [gath_head h]; simp
    · by_cases h2 : e.kind = 2
      · rw [gath_data h2]; simp
      · rw [gath_end h h2]; simp
theorem gath_len {n : Nat} {o : List Rq} {e : Ev} (h : ∀ r ∈ o, r.body.length ≤ n) : ∀ r ∈ gath o e, r.body.length ≤ n + e.data.length := by
  intro r hr
  rcases List.eq_nil_or_concat o with rfl | ⟨i, q, rfl⟩
  · by_cases h1 : e.kind = 1
    · rw [gath_head h1] at hr
      obtain rfl := List.mem_singleton.1 hr
      exact Nat.zero_le _
    · rw [gath_none h1] at hr; cases hr
  · rw [List.concat_eq_append] at h hr
    by_cases h1 : e.kind = 1
    · rw [gath_head h1] at hr
      rcases List.mem_append.1 hr with hr | hr
      · have := h r hr; omega
      · obtain rfl := List.mem_singleton.1 hr
        exact Nat.zero_le _
    · have hq := h q (by simp)
      by_cases h2 : e.kind = 2
      · rw [gath_data h2] at hr
        rcases List.mem_append.1 hr with hr | hr
        · have := h r (List.mem_append_left _ hr); omega
        · obtain rfl := List.mem_singleton.1 hr
          show (q.body ++ e.data).length ≤ _
          rw [List.length_append]; omega
      · rw [gath_end h1 h2] at hr
        rcases List.mem_append.1 hr with hr | hr
        · have := h r (List.mem_append_left _ hr); omega
        · obtain rfl := List.mem_singleton.1 hr
          show q.body.length ≤ _
          omega
theorem gathered_len : ∀ (l : List Ev) (o : List Rq) (n : Nat), (∀ r ∈ o, r.body.length ≤ n) → (∀ r ∈ l.foldl gath o, r.body.length ≤ n + dsum l) ∧ (l.foldl gath o).length ≤ o.length + l.length
  | [], o, n, h => ⟨fun r hr => Nat.le_trans (h r hr) (Nat.le_add_right _ _), Nat.le_refl _⟩
  | e :: l, o, n, h => by
    obtain ⟨h1, h2⟩ := gathered_len l (gath o e) (n + e.data.length) (gath_len h)
    have h3 := gath_cnt o e
    refine ⟨fun r hr => ?_, ?_⟩
    · have := h1 r hr
      unfold dsum at this ⊢
      rw [List.map_cons, List.sum_cons]; omega
    · rw [List.foldl_cons, List.length_cons]; omega
/-- The cells of a request. -/
def RqC (w : World) (P : Nat → Prop) (r : Rq) (xs : List Value) : Prop :=
  ∃ vf vb, xs = [.string (str r.m), .string (str r.t), vf, vb, .bool r.ended] ∧ Rd w 2 vf r.fl.length (prs r.fl) ∧ On P vf ∧ Rd w 1 vb r.body.length (u8s r.body) ∧ On P vb
inductive RqsC (w : World) (P : Nat → Prop) : List Rq → List Value → Prop
  | nil : RqsC w P [] []
  | cons {e : Rq} {l : List Rq} {xs ys : List Value} : RqC w P e xs → RqsC w P l ys → RqsC w P (e :: l) (xs ++ ys)
section
variable {w w' : World} {P Q G : Nat → Prop} {e : Rq} {l m : List Rq} {xs ys : List Value}
theorem RqC.len (h : RqC w P e xs) : xs.length = 5 := by
  obtain ⟨_, _, rfl, -⟩ := h; rfl
theorem RqC.mono (h : RqC w P e xs) (hq : ∀ k, P k → Q k) : RqC w Q e xs := by
  obtain ⟨a, b, h0, h1, h2, h3, h4⟩ := h
  exact ⟨a, b, h0, h1, h2.mono hq, h3, h4.mono hq⟩
theorem RqC.kp (h : RqC w P e xs) (hk : Kp G w w') (hq : ∀ k, P k → ¬ G k) : RqC w' P e xs := by
  obtain ⟨a, b, h0, h1, h2, h3, h4⟩ := h
  exact ⟨a, b, h0, h1.kp (h2.off hq) hk, h2, h3.kp (h4.off hq) hk, h4⟩
theorem RqsC.len (h : RqsC w P l xs) : xs.length = l.length * 5 := by
  induction h with
  | nil => rfl
  | cons h1 h2 ih => rw [List.length_append, h1.len, ih, List.length_cons]; omega
theorem RqsC.mono (h : RqsC w P l xs) (hq : ∀ k, P k → Q k) : RqsC w Q l xs := by
  induction h with
  | nil => exact .nil
  | cons h1 h2 ih => exact .cons (h1.mono hq) ih
theorem RqsC.kp (h : RqsC w P l xs) (hk : Kp G w w') (hq : ∀ k, P k → ¬ G k) : RqsC w' P l xs := by
  induction h with
  | nil => exact .nil
  | cons h1 h2 ih => exact .cons (h1.kp hk hq) ih
theorem RqsC.app (h : RqsC w P l xs) (h2 : RqsC w P m ys) : RqsC w P (l ++ m) (xs ++ ys) := by
  induction h with
  | nil => exact h2
  | cons h1 h3 ih => rw [List.append_assoc]; exact .cons h1 ih
theorem RqsC.snoc (h : RqsC w P l xs) (h2 : RqC w P e ys) : RqsC w P (l ++ [e]) (xs ++ ys) := h.app (by
  have := RqsC.cons h2 (.nil (w := w) (P := P))
  rwa [List.append_nil] at this)
theorem RqsC.at_ (h : RqsC w P l xs) : ∀ {i : Nat} (hi : i < l.length), ∃ ys, RqC w P l[i] ys ∧ ∀ j, j < 5 → xs[i * 5 + j]? = ys[j]? := by
  induction h with
  | nil => intro i hi; cases hi
  | @cons e l a b h1 h2 ih =>
    intro i hi
    cases i with
    | zero => exact ⟨a, h1, fun j hj => by rw [Nat.zero_mul, Nat.zero_add, List.getElem?_append_left (by rw [h1.len]; exact hj)]⟩
    | succ i =>
      obtain ⟨ys, e1, e2⟩ := ih (i := i) (by simpa using hi)
      refine ⟨ys, e1, fun j hj => ?_⟩
      rw [List.getElem?_append_right (by rw [h1.len]; omega), h1.len, show (i + 1) * 5 + j - 5 = i * 5 + j by omega]
      exact e2 j hj
end
def GQ (wr : World) (v vb : Value) (k : Nat) : Prop := k < wr.heap.size ∧ v.ownBlock ≠ some k ∧ vb.ownBlock ≠ some k
/-- In the loop: the requests so far; the last one's body is a row of its own. -/
def GI (w : World) (v : Value) (wr : World) (o : List Rq) : Prop :=
  (o = [] ∧ v = .slice none 0 0) ∨ ∃ init r ys0 vf vb, o = init ++ [r] ∧ Own wr w.heap.size 51 5 v (init.length + 1) (ys0 ++ [.string (str r.m), .string (str r.t), vf, vb, .bool r.ended]) ∧ RqsC wr (GQ wr v vb) init ys0 ∧
    Rd wr 2 vf r.fl.length (prs r.fl) ∧ On (GQ wr v vb) vf ∧ Own wr w.heap.size 5 1 vb r.body.length (u8s r.body)
theorem GI.all {w wr : World} {v : Value} {o : List Rq} (h : GI w v wr o) : ∃ ys, Own wr w.heap.size 51 5 v o.length ys ∧ RqsC wr (fun k => k < wr.heap.size ∧ v.ownBlock ≠ some k) o ys := by
  rcases h with ⟨rfl, rfl⟩ | ⟨init, r, ys0, vf, vb, rfl, h1, h2, h3, h4, h5⟩
  · exact ⟨[], own_nil _ _ _ _, .nil⟩
  · refine ⟨_, by rw [List.length_append, List.length_singleton]; exact h1, (h2.mono (fun k h => ⟨h.1, h.2.1⟩)).snoc ⟨vf, vb, rfl, h3, h4.mono (fun k h => ⟨h.1, h.2.1⟩), Rd.own h5, fun k e => ⟨(World.ownsRow.lt h5 k e).2, fun e2 => Own.apart h1 h5 (by decide) e2 e⟩⟩⟩
end Cn
theorem own_set5 {w : World} {B n cap g : Nat} {t : TypeId} {xs : List Value} (h : Own w B t 5 (.slice (some ⟨g, 0, none⟩) n cap) n xs) (k : Nat) (u : Value) : Own (w.setCell ⟨g, k, none⟩ u) B t 5 (.slice (some ⟨g, 0, none⟩) n cap) n (xs.set k u) := by
  obtain ⟨hl, h⟩ := h
  rcases h with ⟨h1, -⟩ | ⟨g', cap', cur, e, hB, hg, hnc, hm, hs, ht⟩
  · cases h1
  · cases e
    have hb : Blk w g t cur := hg
    have hb2 := hb.set_ k u
    refine ⟨by rw [List.length_set]; exact hl, .inr ⟨g, cap, _, rfl, hB, hb2, hnc, hm, by rw [Array.size_setIfInBounds]; exact hs, ?_⟩⟩
    rw [Array.toList_setIfInBounds, List.take_set, ht]
theorem own_at5 {w : World} {B n : Nat} {t : TypeId} {v : Value} {xs : List Value} (h : Own w B t 5 v n xs) (hn : 0 < n) : ∃ g cap, v = .slice (some ⟨g, 0, none⟩) n cap ∧ B ≤ g ∧ g < w.heap.size ∧ ∀ j u, xs[j]? = some u → w.cell? ⟨g, j, none⟩ = some u ∧ w.frozen? ⟨g, j, none⟩ = false := by
  obtain ⟨hl, h⟩ := h
  rcases h with ⟨h1, h2⟩ | ⟨g, cap, cur, e, hB, hg, hnc, hm, hs, ht⟩
  · exact absurd hn (by omega)
  · have hb : Blk w g t cur := hg
    refine ⟨g, cap, e, hB, hb.lt, fun j u hu => ⟨?_, hb.frozen j⟩⟩
    rw [hb.cell j]
    rw [← ht, List.getElem?_take] at hu
    split at hu
    · rw [← hu, Array.getElem?_toList]
    · cases hu
theorem infoRq : (Tryz.prog.info? 51).map (fun i => (i.zero, i.size, i.bytes)) = some (some (.agg #[.string ⟨#[]⟩, .string ⟨#[]⟩, .slice none 0 0, .slice none 0 0, .bool false]), 5, 88) := by kernel_rfl
theorem rd_one5 (w : World) (t : TypeId) (u0 u1 u2 u3 u4 : Value) : Rd (w.alloc (.cells #[u0, u1, u2, u3, u4] t)) 5 (.slice (some ⟨w.heap.size, 0, none⟩) 1 1) 1 [u0, u1, u2, u3, u4] := by
  refine ⟨_, _, rfl, Nat.le_refl _, rfl, fun _ => ⟨w.heap.size, 0, rfl, by rw [alloc_size']; omega, fun j u hu => ?_⟩⟩
  rw [Nat.zero_add, (Blk.new w t #[u0, u1, u2, u3, u4]).cell j]
  have e : ([u0, u1, u2, u3, u4].toArray)[j]? = [u0, u1, u2, u3, u4][j]? := List.getElem?_toArray
  exact e.trans hu
theorem push_rq {ops : Array Oper} {rest : List Oper} {o : Oper} {a : Act} {Q : Exit → Act → World → Prop} {w : World} (s x : Operand)
    (hgd : o.guard = none) (ho : o.op = .call { callee := .builtin .append, args := #[s, x], argTypes := #[41, 41] })
    {B n : Nat} {v u0 u1 u2 u3 u4 : Value} {xs : List Value} (hs : a.eval s = v) (hown : Own w B 51 5 v n xs) (hx : a.eval x = .slice (some ⟨w.heap.size, 0, none⟩) 1 1)
    (h1 : ∀ u ∈ [u0, u1, u2, u3, u4], u.oneCell' = true) (hn : n < 10000000) (hB : B ≤ w.heap.size)
    (h : ∀ v' w', Own w' B 51 5 v' (n + 1) (xs ++ [u0, u1, u2, u3, u4]) → (w.alloc (.cells #[u0, u1, u2, u3, u4] 51)).grownBy w' v.ownBlock → (v'.ownBlock = v.ownBlock ∨ v'.ownBlock = some (w.heap.size + 1)) → wpList Tryz.prog ops Q rest (a.put o.dst v') w') :
    wpList Tryz.prog ops Q (o :: rest) a (w.alloc (.cells #[u0, u1, u2, u3, u4] 51)) := by
  refine step_pushR 41 51 _ 5 88 s x hgd ho Tryz.underlying41 infoRq rfl (by decide) (by decide) hs (hown.alloc _) hx (rd_one5 w _ u0 u1 u2 u3 u4) h1 (by omega) (by rw [alloc_size']; omega) ?_
  intro v' w' ho' hg hat
  exact h v' w' ho' hg (by rwa [alloc_size'] at hat)
end Go.Proofs.YtjffffpfejmoiaaGreatDoor
