/-
  Layer 7: Chunk.
-/
import Derived.Test.YtbegpdhkjfdjbaaDoorCHexW
import Derived.Lib.AppendStr
namespace Go.Proofs.YtbegpdhkjfdjbaaDoor
open Go.RowKit Syn Ck

/-- append of CR LF onto an owned row. -/
theorem push_crlf {ops : Array Oper} {rest : List Oper} {o : Oper} {a : Act} {Q : Exit → Act → World → Prop} {w : World} (s x : Operand)
    (hgd : o.guard = none) (ho : o.op = .call { callee := .builtin .append, args := #[s, x], argTypes := #[30, 9] })
    {B : Nat} {v : Value} {l : List UInt8} (hs : a.eval s = v) (hown : Own w B 5 1 v l.length (u8s l)) (hx : a.eval x = .string ⟨#[13, 10]⟩) (hn : l.length ≤ 10000000000) (hB : B ≤ w.heap.size)
    (h : ∀ v' w', Own w' B 5 1 v' (l ++ [13, 10]).length (u8s (l ++ [13, 10])) → Below B w w' → wpList Tryd.prog ops Q rest (a.put o.dst v') w') : wpList Tryd.prog ops Q (o :: rest) a w := by
  have hi := infoU8
  cases hP : Tryd.prog.info? 5 with
  | none => rw [hP] at hi; cases hi
  | some i =>
    rw [hP] at hi
    simp only [Option.map_some, Option.some.injEq, Prod.mk.injEq] at hi
    obtain ⟨hz, hsize, hbytes⟩ := hi
    refine Lib.wpList_append_own_string (P := Tryd.prog) w hgd s x 30 9 ho B 5 i Tryd.underlying30 Tryd.underlying9 hP hz hsize hbytes v l.length (u8s l) hs hown ⟨#[13, 10]⟩ hx (by show l.length + 2 ≤ maxLen; unfold maxLen; omega) (by show l.length + 2 ≤ _; omega) hB ?_
    intro v' w' hown' hg _
    refine h v' w' ?_ (below_grown hown hg hB)
    rw [List.length_append, u8s_app]
    exact hown'
set_option maxRecDepth 100000 in
set_option maxHeartbeats 4000000 in
theorem chunk_any (b : List UInt8) (A : Option Addr) (cap : Nat) (w : World) (hR : Rd w 1 (.slice A b.length cap) b.length (u8s b)) (hm : b.length ≤ 1000000) (hT : w.cell? ⟨5, 15, none⟩ = some (.int .u8 4)) :
    Calls Tryd.prog 23 #[.slice A b.length cap] w fun e w' => ∃ v, e = .returned v ∧ Own w' w.heap.size 5 1 v (chk b).length (u8s (chk b)) ∧ Below w.heap.size w w' := by
  by_cases h0 : b = []
  · subst h0
    have hq : (((List.length (α := UInt8) []) : Int) == 0) = true := rfl
    clear hR hT
    go_enter Tryd.func23, Tryd.ntmps23
    go_wp2
    go_ret
    exact ⟨_, rfl, own_nil _ _ _ _, Below.refl _ _⟩
  · have hq : ((b.length : Int) == 0) = false := beq_cast_false (fun e => h0 (List.eq_nil_of_length_eq_zero e))
    have hck : chk b = hexs b.length ++ [13, 10] ++ b ++ [13, 10] := by unfold chk; rw [if_neg h0]; simp
    have hI := Lib.hid (appint_16 b.length w (by omega) hT)
    have hhl := hexs_len 15 b.length (by omega)
    have h1c := Lib.hid (u8s_one b)
    replace hR := Lib.hid hR
    replace hck := Lib.hid hck
    replace h0 := Lib.hid h0
    clear hT
    go_enter Tryd.func23, Tryd.ntmps23
    go_wp2_with fail
    refine hI.out.mono ?_
    rintro e w1 ⟨v1, rfl, ho1, hb1⟩
    have hs1 := hb1.size
    have hR1 := hR.out.below hb1
    generalize hexs b.length = hx at *
    replace ho1 := Lib.hid ho1
    replace hb1 := Lib.hid hb1
    replace hR1 := Lib.hid hR1
    go_wp2_with (at_builtin; first
      | (refine push_crlf (v := v1) (l := hx) (B := w.heap.size) _ _ rfl rfl rfl ho1.out rfl (by omega) hs1 ?_; intro v2 w2 ho2 hb2; have hs2 := hb2.size; have hB2 := Lib.hid (hb1.out.trans hb2); have hR2 := Lib.hid (hR.out.below (hb1.out.trans hb2)); have hs2' := (hb1.out.trans hb2).size; replace ho2 := Lib.hid ho2; clear hb2)
      | (refine step_pushR (v := v2) (n := (hx ++ [13, 10]).length) (m := b.length) (xs := u8s (hx ++ [13, 10])) (news := u8s b) (c := cap) (A := A) (B := w.heap.size) 30 5 (.int .u8 0) 1 1 _ _ rfl rfl Tryd.underlying30 infoU8 rfl (by decide) (by decide) rfl ho2.out rfl hR2.out h1c.out (by rw [List.length_append]; simp; omega) hs2' ?_; intro v3 w3 ho3 hg3 _; have hb3 := below_grown ho2.out hg3 hs2'; have hB3 := Lib.hid (hB2.out.trans hb3); have hs3' := (hB2.out.trans hb3).size; replace ho3 : Own w3 w.heap.size 5 1 v3 (hx ++ [13, 10] ++ b).length (u8s (hx ++ [13, 10] ++ b)) := (by rw [List.length_append (bs := b), u8s_app (b := b)]; exact ho3); replace ho3 := Lib.hid ho3; clear hg3 hb3)
      | (refine push_crlf (v := v3) (l := hx ++ [13, 10] ++ b) (B := w.heap.size) _ _ rfl rfl rfl ho3.out rfl (by rw [List.length_append, List.length_append]; simp; omega) hs3' ?_; intro v4 w4 ho4 hb4; have hB4 := Lib.hid (hB3.out.trans hb4); replace ho4 := Lib.hid ho4; clear hb4))
    go_ret
    exact ⟨_, rfl, by rw [hck.out]; exact ho4.out, hB4.out⟩
end Go.Proofs.YtbegpdhkjfdjbaaDoor
