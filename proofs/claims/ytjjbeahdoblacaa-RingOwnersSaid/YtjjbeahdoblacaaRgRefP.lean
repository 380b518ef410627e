/-
  Layer 31, the document: rows while an element is moved in; less; the points.
-/
import Derived.Test.YtjjbeahdoblacaaRgMade
import Derived.Test.YtjjbeahdoblacaaRgDelW
namespace Go.Proofs.Ytjjbeahdoblacaa
open Go.Shelf Go.RowKit Go.Lib Go.Sort Rg
namespace Rg
/-- The row while the elements behind j have been moved up. -/
def mvd (S : List Pt) (z : Pt) (j : Nat) : List Pt := (S ++ [z]).take (j + 1) ++ S.drop j
theorem mvd_len {S : List Pt} {z : Pt} {j : Nat} (hj : j ≤ S.length) : (mvd S z j).length = S.length + 1 := by
  unfold mvd; rw [List.length_append, List.length_take, List.length_drop, List.length_append, List.length_singleton]; omega
theorem mvd_get {S : List Pt} {z : Pt} {j t : Nat} (hj : j ≤ S.length) : (mvd S z j)[t]? = if t ≤ j then (S ++ [z])[t]? else S[t - 1]? := by
  unfold mvd
  have hl : ((S ++ [z]).take (j + 1)).length = j + 1 := by rw [List.length_take, List.length_append, List.length_singleton]; omega
  split
  · next h => rw [List.getElem?_append_left (by omega), List.getElem?_take_of_lt (by omega)]
  · next h =>
    rw [List.getElem?_append_right (by omega), hl, List.getElem?_drop]
    congr 1; omega
theorem mvd_start (S : List Pt) (z : Pt) : mvd S z S.length = S ++ [z] := by
  unfold mvd; rw [List.drop_length, List.append_nil, List.take_of_length_le (by simp)]
theorem mvd_src {S : List Pt} {z : Pt} {j : Nat} (hj : j < S.length) : (mvd S z (j + 1))[j]? = some S[j] := by
  rw [mvd_get (by omega), if_pos (by omega), List.getElem?_append_left hj, List.getElem?_eq_getElem hj]
theorem mvd_step {S : List Pt} {z : Pt} {j : Nat} (hj : j < S.length) : (mvd S z (j + 1)).set (j + 1) S[j] = mvd S z j := by
  apply List.ext_getElem?
  intro t
  rw [List.getElem?_set, mvd_get (by omega), mvd_get (by omega)]
  by_cases h : j + 1 = t
  · subst h
    rw [if_pos rfl, if_pos (by rw [mvd_len (by omega)]; omega), if_neg (by omega), Nat.add_sub_cancel, List.getElem?_eq_getElem hj]
  · rw [if_neg h]
    by_cases h2 : t ≤ j
    · rw [if_pos (by omega), if_pos h2]
    · rw [if_neg (by omega), if_neg h2]
theorem mvd_put {S : List Pt} {z p : Pt} {a : Nat} (ha : a ≤ S.length) : (mvd S z a).set a p = S.take a ++ p :: S.drop a := by
  apply List.ext_getElem?
  intro t
  have hl : (S.take a).length = a := by rw [List.length_take]; omega
  rw [List.getElem?_set, mvd_get ha]
  by_cases h : a = t
  · subst h
    rw [if_pos rfl, if_pos (by rw [mvd_len ha]; omega), List.getElem?_append_right (by omega), hl, Nat.sub_self, List.getElem?_cons_zero]
  · rw [if_neg h]
    by_cases h2 : t ≤ a
    · rw [if_pos h2, List.getElem?_append_left (by omega), List.getElem?_append_left (by omega), List.getElem?_take_of_lt (by omega)]
    · rw [if_neg h2, List.getElem?_append_right (by omega), hl]
      obtain ⟨d, hd⟩ : ∃ d, t - a = d + 1 := ⟨t - a - 1, by omega⟩
      rw [hd, List.getElem?_cons_succ, List.getElem?_drop]
      congr 1; omega
theorem srt_head {S : List Pt} {p : Pt} {b : Nat} (hs : Srt S) (hb : b < S.length) (h : ptLt p S[b] = false) : ∀ j, (hj : j < S.length) → j < b + 1 → ptLt p S[j] = false := fun j hj hjb => by
  rcases Nat.eq_or_lt_of_le (Nat.lt_succ_iff.1 hjb) with rfl | hlt
  · exact h
  · exact swo_pt.ntrans _ _ _ h (List.pairwise_iff_getElem.1 hs j b hj hb hlt)
end Rg
/-- A point is set. -/
theorem own_setp {w : World} {B g n cap k : Nat} {e : TypeId} {l : List Pt} (p : Pt) (h : Own w B e 2 (.slice (some ⟨g, 0, none⟩) n cap) n (pvs l)) (hl : l.length = n) (hk : k < n) :
    Own (w.setCells g (k * 2) (encP p)) B e 2 (.slice (some ⟨g, 0, none⟩) n cap) n (pvs (l.set k p)) ∧ Kp (fun b => b = g) w (w.setCells g (k * 2) (encP p)) := by
  obtain ⟨hS, hBg, hnc, hcm⟩ := own_shp h
  refine ⟨own_mk (hS.sets g _ _) hBg hnc hcm (by rw [pvs_len, List.length_set, hl]) ?_, sets_kp g _ _ (Kp.refl _ _)⟩
  exact pvs_set hS (by rw [hl]; exact Nat.mul_le_mul_right 2 hnc) (by omega) (fun j u hu => own_at h hu)
theorem infoRPt : (Try.prog.info? 65).map (fun i => (i.zero, i.size, i.bytes)) = some (some (.agg #[.int .u64 0, .string ⟨#[]⟩]), 2, 24) := by kernel_rfl
/-- append of the zero point. -/
theorem push_rpt {ops : Array Oper} {rest : List Oper} {o : Oper} {a : Act} {Q : Exit → Act → World → Prop} {w : World} (s x : Operand)
    (hgd : o.guard = none) (ho : o.op = .call { callee := .builtin .append, args := #[s, x], argTypes := #[60, 60] })
    {B : Nat} {v : Value} {S : List Pt} (hs : a.eval s = v) (hown : Own w B 65 2 v S.length (pvs S)) (hx : a.eval x = .slice (some ⟨w.heap.size, 0, none⟩) 1 1)
    (hn : S.length < 1000000) (hbase : B ≤ w.heap.size)
    (h : ∀ v' w', Own w' B 65 2 v' (S.length + 1) (pvs (S ++ [(0, [])])) → Kp (fun b => v.ownBlock = some b) w w' → (v'.ownBlock = v.ownBlock ∨ ∃ b, v'.ownBlock = some b ∧ w.heap.size ≤ b) → wpList Try.prog ops Q rest (a.put o.dst v') w') : wpList Try.prog ops Q (o :: rest) a (w.alloc (.cells #[.int .u64 0, .string ⟨#[]⟩] 65)) := by
  have hb1 : Below w.heap.size w (w.alloc (.cells #[.int .u64 0, .string ⟨#[]⟩] 65)) := (Below.refl _ _).alloc (Nat.le_refl _) _
  have hnb := blk_new w 65 #[.int .u64 0, .string ⟨#[]⟩]
  have hsz : (w.alloc (.cells #[.int .u64 0, .string ⟨#[]⟩] 65)).heap.size = w.heap.size + 1 := by simp
  cases hP : Try.prog.info? 65 with
  | none => have := infoRPt; rw [hP] at this; cases this
  | some i =>
    have hi := infoRPt
    rw [hP] at hi
    simp only [Option.map_some, Option.some.injEq, Prod.mk.injEq] at hi
    obtain ⟨hz, hsize, hbytes⟩ := hi
    refine wpList_append_own_at (w.alloc (.cells #[.int .u64 0, .string ⟨#[]⟩] 65)) hgd s x 60 ho B 65 i _ 2 24 Try.underlying60 hP hz hsize hbytes rfl (by decide) v S.length (pvs S) hs (hown.alloc _) _ 1 1 [.int .u64 0, .string ⟨#[]⟩] hx rfl (fun j u hu => ?_) ?_ (by unfold maxLen; omega) (by omega) (by omega) ?_
    · rw [show (⟨w.heap.size, 0, none⟩ : Addr).add j = ⟨w.heap.size, j, none⟩ by unfold Addr.add; split <;> simp_all, hnb.cell]
      simpa using hu
    · intro y hy
      rcases List.mem_cons.1 hy with rfl | hy
      · rfl
      · rw [List.mem_singleton] at hy; rw [hy]; rfl
    intro v' w' hown' hg _ hat
    refine h v' w' ?_ ?_ ?_
    · rw [pvs_snoc]; exact hown'
    · exact ((Kp.refl _ w).below hb1).next (fun k _ e => e) ((Kp.refl _ _).grown hg (fun k e _ => e))
    · rcases hat with h | h
      · exact Or.inl h
      · exact Or.inr ⟨_, h, by omega⟩
theorem hash_k2 (k : Nat) (x : Nm) (w : World) (hk : k ≤ 100000) (hx : x.length ≤ 100000) : Calls Try.prog 26 #[.int .u64 (IntKind.u64.wrap (k : Int)), .string (str x)] w fun e w' => e = .returned (.int .u64 (Sk.hash (k : Int) x)) ∧ w = w' := by
  have e1 : IntKind.u64.wrap (k : Int) = k := by simp [IntKind.wrap, IntKind.bits, IntKind.signed]; omega
  rw [e1]
  exact hash2_any (k : Int) (str x) w (by rw [str_size]; unfold maxLen; omega)
set_option maxHeartbeats 4000000 in
/-- less. -/
theorem less_ref (p q : Pt) (w : World) :
    Calls Try.prog 39 #[.agg #[.int .u64 p.1, .string (str p.2)], .agg #[.int .u64 q.1, .string (str q.2)]] w fun e w' => e = .returned (.bool (ptLt p q)) ∧ Below w.heap.size w w' := by
  obtain ⟨ph, pn⟩ := p
  obtain ⟨qh, qn⟩ := q
  simp only
  have b1 := (blk_new w 65 #[.int .u64 ph, .string (str pn)]).alloc (.cells #[.int .u64 qh, .string (str qn)] 65)
  have b2 := blk_new (w.alloc (.cells #[.int .u64 ph, .string (str pn)] 65)) 65 #[.int .u64 qh, .string (str qn)]
  have hB := Lib.hid (show Below w.heap.size w ((w.alloc (.cells #[.int .u64 ph, .string (str pn)] 65)).alloc (.cells #[.int .u64 qh, .string (str qn)] 65)) from ((Below.refl _ _).alloc (Nat.le_refl _) _).alloc (by simp) _)
  by_cases hlt : ph < qh
  · have hr : Hid (ptLt (ph, pn) (qh, qn) = true) := by show _ = _; rw [ptLt_true]; exact Or.inl hlt
    have h1 : decide (ph < qh) = true := decide_eq_true hlt
    clear b1 b2 hlt
    go_enter Try.func39, Try.ntmps39
    go_wp2
    go_ret
    exact ⟨by rw [hr.out]; rfl, hB.out⟩
  · by_cases he : ph = qh
    · subst he
      have hr : Hid (ptLt (ph, pn) (ph, qn) = decide (pn < qn)) := by show _ = _; unfold ptLt; simp
      have h1 : decide (ph < ph) = false := decide_eq_false hlt
      have h2 : (ph == ph) = true := by simp
      have hb := Lib.hid (show Op.bytesLess (str pn).toList (str qn).toList = decide (pn < qn) by rw [bytesLess_eq, str_toList, str_toList])
      clear b1 b2 hlt
      go_enter Try.func39, Try.ntmps39
      go_wp2
      go_ret
      exact ⟨by rw [hr.out, ← hb.out]; rfl, hB.out⟩
    · have hr : Hid (ptLt (ph, pn) (qh, qn) = false) := by show _ = _; rw [ptLt_false]; rintro (h | ⟨h, _⟩); · exact hlt h
                                                           · exact he h
      have h1 : decide (ph < qh) = false := decide_eq_false hlt
      have h2 : (ph == qh) = false := by simpa using he
      clear b1 b2 hlt he
      go_enter Try.func39, Try.ntmps39
      go_wp2
      go_ret
      exact ⟨by rw [hr.out]; rfl, hB.out⟩
end Go.Proofs.Ytjjbeahdoblacaa
