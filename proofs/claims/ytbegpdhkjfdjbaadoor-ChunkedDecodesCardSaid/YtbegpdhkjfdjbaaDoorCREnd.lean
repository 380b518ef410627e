/-
  Layer 7: a byte after the last chunk in the document.
-/
import Derived.Test.YtbegpdhkjfdjbaaDoorCRef
import Derived.Test.YtbegpdhkjfdjbaaDoorCCutI
import Derived.Test.YtbegpdhkjfdjbaaDoorCRLine
import Derived.Deep.RegionHeld3
import Derived.Deep.RegionLaw
import Derived.Deep.DrawnRows
namespace Go.Proofs.YtbegpdhkjfdjbaaDoor
open Go.RowKit Syn Ck

section
variable {P : Program}
/-- append of a slice that reads as news onto an owned row, at a step of a region that draws its order. -/
theorem stepR_push {ops : Array Oper} {o : Oper} {a : Act} {K : Act → World → Prop} {Q : Exit → Act → World → Prop} {E : Prop} {w : World} (t e : TypeId) (z : Value) (size bytes : Nat) (s x : Operand)
    (hgd : o.guard = none) (ho : o.op = .call { callee := .builtin .append, args := #[s, x], argTypes := #[t, t] })
    (ht : P.underlying t = some (.slice e)) (hi : (P.info? e).map (fun i => (i.zero, i.size, i.bytes)) = some (some z, size, bytes)) (hzs : z.cells.size = size) (hsz : 0 < size) (hby : bytes ≤ 1000)
    {B n m c : Nat} {v : Value} {xs news : List Value} {A : Option Addr} (hs : a.eval s = v) (hown : Own w B e size v n xs) (hx : a.eval x = .slice A m c) (hR : Rd w size (.slice A m c) m news)
    (h1 : ∀ u ∈ news, u.oneCell' = true) (hn : n + m ≤ 10000000000) (hB : B ≤ w.heap.size)
    (h : ∀ v' w', Own w' B e size v' (n + m) (xs ++ news) → w.grownBy w' v.ownBlock → K (a.put o.dst v') w') :
    if Region.wanted o (yielded ops a.tmps) = true then Oper.wp P o a w K Q else E := by
  have hwt : Region.wanted o (yielded ops a.tmps) = true := by simp [Region.wanted, hgd]
  rw [if_pos hwt]
  cases hP : P.info? e with
  | none => rw [hP] at hi; cases hi
  | some i =>
    rw [hP] at hi
    simp only [Option.map_some, Option.some.injEq, Prod.mk.injEq] at hi
    obtain ⟨hz, hsize, hbytes⟩ := hi
    have hbb : (n + m) * bytes ≤ 140737488355328 := Nat.le_trans (Nat.mul_le_mul hn hby) (by decide)
    obtain ⟨A', c', e', hc, hl, hr⟩ := hR
    cases e'
    cases A with
    | some ad =>
      have hcel : ∀ j u, news[j]? = some u → w.cell? (ad.add j) = some u := fun j u hu => by
        have hm : 0 < m := by
          rcases Nat.eq_zero_or_pos m with h0 | h0
          · subst h0
            rw [Nat.zero_mul] at hl
            rw [List.eq_nil_of_length_eq_zero hl] at hu; cases hu
          · exact h0
        obtain ⟨b, o', e1, hlt, hx'⟩ := hr hm
        cases e1
        have hadd : (⟨b, o', none⟩ : Addr).add j = ⟨b, o' + j, none⟩ := by unfold Addr.add; split <;> simp_all
        rw [hadd]; exact hx' j u hu
      obtain ⟨v', w', hr, h2, h3, h4, h5⟩ := run_append_own_at (P := P) w B t o.type e i z size bytes ht hP hz hsize hbytes hzs hsz v n xs hown ad m c news hl hcel h1 (by unfold maxLen; omega) hbb hB
      unfold Oper.wp execOp
      simp only [ho, resolve, invoke, builtin, Sem.run_bind, Sem.run_pure, Result.andThen_ok, List.map_toArray, List.map_cons, List.map_nil, hs, hx, hr]
      exact h v' w' h2 h3
    | none =>
      have hm : m = 0 := by
        rcases Nat.eq_zero_or_pos m with h0 | h0
        · exact h0
        · obtain ⟨b, o', e1, -⟩ := hr h0; cases e1
      subst hm
      rw [Nat.zero_mul] at hl
      have hnil := List.eq_nil_of_length_eq_zero hl
      subst hnil
      have hk := h v w (by rw [Nat.add_zero, List.append_nil]; exact hown) ⟨rfl, rfl, rfl, Nat.le_refl _, fun _ _ _ => rfl⟩
      obtain ⟨Av, cv, rfl, hcv, -, -⟩ := Rd.own hown
      have hrn := run_append_nilx (P := P) w t o.type e i ht hP Av n cv c hcv
      unfold Oper.wp execOp
      simp only [ho, resolve, invoke, builtin, Sem.run_bind, Sem.run_pure, Result.andThen_ok, List.map_toArray, List.map_cons, List.map_nil, hs, hx, hrn]
      exact hk
end

theorem infoR2 : (Tryd.prog.info? 63).map (fun i => (i.zero, i.size, i.bytes)) = some (some (.agg #[.string ⟨#[]⟩, .string ⟨#[]⟩]), 2, 32) := by kernel_rfl
namespace Ck
/-- The cell of the fields. -/
def C8 (G : Nat) (w : World) : Value := (w.cell? ⟨G, 8, none⟩).getD undef
theorem C8.of {G : Nat} {w : World} {v : Value} (h : w.cell? ⟨G, 8, none⟩ = some v) : w.cell? ⟨G, 8, none⟩ = some (C8 G w) := by unfold C8; rw [h]; rfl
theorem C8.eq {G : Nat} {w : World} {v : Value} (h : w.cell? ⟨G, 8, none⟩ = some v) : C8 G w = v := by unfold C8; rw [h]; rfl
/-- What the region's loads read. -/
def SK (G g5 : Nat) (a b : Value) (w' : World) : Prop := w'.cell? ⟨G, 8, none⟩ = some (C8 G w') ∧ w'.cell? ⟨g5, 0, none⟩ = some a ∧ w'.cell? ⟨g5, 1, none⟩ = some b
theorem SK.drew {G g5 : Nat} {a b : Value} {w' : World} (h : SK G g5 a b w') : SK G g5 a b w'.drew := h
theorem SK.next {G g5 B : Nat} {a b : Value} {w' w'' : World} (h : SK G g5 a b w') (hG : G < B) (h5 : g5 < B) (hb : Below B w' w'') : SK G g5 a b w'' :=
  ⟨C8.of ((hb.cell (p := ⟨G, 8, none⟩) hG).trans h.1), by rw [hb.cell (p := ⟨g5, 0, none⟩) h5]; exact h.2.1, by rw [hb.cell (p := ⟨g5, 1, none⟩) h5]; exact h.2.2⟩
theorem SK.alloc {G g5 : Nat} {a b : Value} {w' : World} (h : SK G g5 a b w') (o : Obj) : SK G g5 a b (w'.alloc o) :=
  h.next (B := w'.heap.size) (cell_lt h.1) (cell_lt h.2.1) ((Below.refl _ _).alloc (Nat.le_refl _) o)
theorem SK.set {G g5 : Nat} {t : TypeId} {cs : Array Value} {a b : Value} {w' : World} (h : SK G g5 a b w') (hG : g5 ≠ G) (hb : Blk w' G t cs) (hc : 8 < cs.size) (u : Value) : SK G g5 a b (w'.setCell ⟨G, 8, none⟩ u) := by
  have e : ∀ j, (w'.setCell ⟨G, 8, none⟩ u).cell? ⟨g5, j, none⟩ = w'.cell? ⟨g5, j, none⟩ := fun j => World.cell?_of_block (Below.heap_setCell w' ⟨G, 8, none⟩ u g5 hG)
  refine ⟨C8.of (v := u) ?_, by rw [e]; exact h.2.1, by rw [e]; exact h.2.2⟩
  rw [(hb.set_ 8 u).cell 8]
  simp [hc]
theorem Rd.two {w : World} {g : Nat} {t : TypeId} {a b : Value} (h : Blk w g t #[a, b]) : Rd w 2 (.slice (some ⟨g, 0, none⟩) 1 1) 1 [a, b] :=
  ⟨_, _, rfl, Nat.le_refl _, rfl, fun _ => ⟨g, 0, rfl, h.lt, fun j u hu => by rw [Nat.zero_add, h.cell j]; simpa using hu⟩⟩
theorem Blk.grown {w w' : World} {g : Nat} {t : TypeId} {cs : Array Value} {row : Option Nat} (h : Blk w g t cs) (hg : w.grownBy w' row) (hne : some g ≠ row) : Blk w' g t cs := (hg.block g h.lt hne).trans h
theorem setTen {w : World} {g : Nat} {t : TypeId} {o0 o1 o2 o3 o4 o5 o6 o7 o8 o9 : Value} (h : Blk w g t #[o0, o1, o2, o3, o4, o5, o6, o7, o8, o9]) (a0 a1 a2 a3 a4 a5 a6 a7 a8 a9 : Value) :
    Blk ((((((((((w.setCell ⟨g, 0, none⟩ a0).setCell ⟨g, 1, none⟩ a1).setCell ⟨g, 2, none⟩ a2).setCell ⟨g, 3, none⟩ a3).setCell ⟨g, 4, none⟩ a4).setCell ⟨g, 5, none⟩ a5).setCell ⟨g, 6, none⟩ a6).setCell ⟨g, 7, none⟩ a7).setCell ⟨g, 8, none⟩ a8).setCell ⟨g, 9, none⟩ a9) g t #[a0, a1, a2, a3, a4, a5, a6, a7, a8, a9] := by
  have h0 : Blk _ g t #[a0, o1, o2, o3, o4, o5, o6, o7, o8, o9] := h.set_ 0 a0
  have h1 : Blk _ g t #[a0, a1, o2, o3, o4, o5, o6, o7, o8, o9] := h0.set_ 1 a1
  have h2 : Blk _ g t #[a0, a1, a2, o3, o4, o5, o6, o7, o8, o9] := h1.set_ 2 a2
  have h3 : Blk _ g t #[a0, a1, a2, a3, o4, o5, o6, o7, o8, o9] := h2.set_ 3 a3
  have h4 : Blk _ g t #[a0, a1, a2, a3, a4, o5, o6, o7, o8, o9] := h3.set_ 4 a4
  have h5 : Blk _ g t #[a0, a1, a2, a3, a4, a5, o6, o7, o8, o9] := h4.set_ 5 a5
  have h6 : Blk _ g t #[a0, a1, a2, a3, a4, a5, a6, o7, o8, o9] := h5.set_ 6 a6
  have h7 : Blk _ g t #[a0, a1, a2, a3, a4, a5, a6, a7, o8, o9] := h6.set_ 7 a7
  have h8 : Blk _ g t #[a0, a1, a2, a3, a4, a5, a6, a7, a8, o9] := h7.set_ 8 a8
  have h9 : Blk _ g t #[a0, a1, a2, a3, a4, a5, a6, a7, a8, a9] := h8.set_ 9 a9
  exact h9
theorem below_l3 {B : Nat} {w0 w : World} (h : Below B w0 w) (hB : B ≤ w.heap.size) (X Y Z : Obj) : Below B w0 (((w.alloc X).alloc Y).alloc Z) :=
  ((h.alloc hB X).alloc (by rw [alloc_size']; omega) Y).alloc (by rw [alloc_size', alloc_size']; omega) Z
theorem belowTen {B : Nat} {w0 w : World} {g : Nat} (h : Below B w0 w) (hg : B ≤ g) (a0 a1 a2 a3 a4 a5 a6 a7 a8 a9 : Value) :
    Below B w0 ((((((((((w.setCell ⟨g, 0, none⟩ a0).setCell ⟨g, 1, none⟩ a1).setCell ⟨g, 2, none⟩ a2).setCell ⟨g, 3, none⟩ a3).setCell ⟨g, 4, none⟩ a4).setCell ⟨g, 5, none⟩ a5).setCell ⟨g, 6, none⟩ a6).setCell ⟨g, 7, none⟩ a7).setCell ⟨g, 8, none⟩ a8).setCell ⟨g, 9, none⟩ a9) :=
  (((((((((h.setCell (p := ⟨g, 0, none⟩) hg a0).setCell (p := ⟨g, 1, none⟩) hg a1).setCell (p := ⟨g, 2, none⟩) hg a2).setCell (p := ⟨g, 3, none⟩) hg a3).setCell (p := ⟨g, 4, none⟩) hg a4).setCell (p := ⟨g, 5, none⟩) hg a5).setCell (p := ⟨g, 6, none⟩) hg a6).setCell (p := ⟨g, 7, none⟩) hg a7).setCell (p := ⟨g, 8, none⟩) hg a8).setCell (p := ⟨g, 9, none⟩) hg a9
theorem kpTen {F : Nat → Prop} {a w : World} {g : Nat} (h : Kp F a w) (hg : F g) (a0 a1 a2 a3 a4 a5 a6 a7 a8 a9 : Value) :
    Kp F a ((((((((((w.setCell ⟨g, 0, none⟩ a0).setCell ⟨g, 1, none⟩ a1).setCell ⟨g, 2, none⟩ a2).setCell ⟨g, 3, none⟩ a3).setCell ⟨g, 4, none⟩ a4).setCell ⟨g, 5, none⟩ a5).setCell ⟨g, 6, none⟩ a6).setCell ⟨g, 7, none⟩ a7).setCell ⟨g, 8, none⟩ a8).setCell ⟨g, 9, none⟩ a9) :=
  (((((((((h.set_ (fun _ => hg) 0 a0).set_ (fun _ => hg) 1 a1).set_ (fun _ => hg) 2 a2).set_ (fun _ => hg) 3 a3).set_ (fun _ => hg) 4 a4).set_ (fun _ => hg) 5 a5).set_ (fun _ => hg) 6 a6).set_ (fun _ => hg) 7 a7).set_ (fun _ => hg) 8 a8).set_ (fun _ => hg) 9 a9
/-- What a step of the document returns. -/
def RStp (w : World) (A0 : Option Addr) (n0 : Nat) (s : St) (e : Ending) (w' : World) : Prop :=
  ∃ (A : Option Addr) (cap : Nat), e = .returned (sv s (.slice A s.fields.length cap)) ∧ Rd w' 2 (.slice A s.fields.length cap) s.fields.length (prs s.fields) ∧
    ((A = A0 ∧ s.fields.length = n0) ∨ ∀ j, (Value.slice A s.fields.length cap).ownBlock = some j → w.heap.size ≤ j) ∧ Below w.heap.size w w'
theorem Rd.kp0 {F : Nat → Prop} {a w : World} {sz n : Nat} {v : Value} {xs : List Value} (h : Rd a sz v n xs) (hF : 0 < n → Off F v) (hk : Kp F a w) : Rd w sz v n xs := by
  rcases Nat.eq_zero_or_pos n with h0 | h0
  · obtain ⟨A, cap, e, hc, hl, h⟩ := h
    exact ⟨A, cap, e, hc, hl, fun hn => by omega⟩
  · exact Rd.kp h (hF h0) hk
theorem Rd.lt0 {w : World} {sz n : Nat} {v : Value} {xs : List Value} (h : Rd w sz v n xs) (hn : 0 < n) : ∀ j, v.ownBlock = some j → j < w.heap.size := by
  obtain ⟨A, cap, rfl, hc, hl, h⟩ := h
  obtain ⟨b, o, rfl, hb, -⟩ := h hn
  intro j hj
  have : b = j := Option.some.inj hj
  omega
theorem Blk.ten {w : World} {g : Nat} {t : TypeId} {s : St} {vf : Value} (h : Blk w g t (svC s vf)) : Blk w g t #[.int .i64 s.place, .int .i64 s.digits, .int .i64 s.number, .int .i64 s.line, .int .i64 s.total, .int .i64 s.left, .int .i64 s.sect, .string (str s.text), vf, .int .i64 s.bad] := h
end Ck
set_option maxRecDepth 100000 in
set_option maxHeartbeats 16000000 in
theorem rended_any (s : St) (h : Ok s) (hp : 6 ≤ s.place ∧ s.place ≤ 7) (c : UInt8) (A : Option Addr) (cap : Nat) (w : World) (hr : Rd w 2 (.slice A s.fields.length cap) s.fields.length (prs s.fields)) :
    Calls Tryd.prog 52 #[sv s (.slice A s.fields.length cap), .int .u8 (c.toNat : Int)] w (RStp w A s.fields.length (ended s c)) := by
  have hsc := h.sect
  have htx := h.text
  have hfl := h.fields
  have hbd := h.bad
  obtain ⟨pl, D, Z, L, T, lf, sc, tx, fl, bd⟩ := s
  simp only at hp hsc htx hfl hbd hr ⊢
  subst hbd
  clear h
  have Hr := Lib.hid hr
  clear hr
  by_cases k1 : sc = 8192
  · have q1 : ((sc : Int) == 8192) = true := beq_cast_true k1
    subst k1
    have hs : Hid (ended ⟨pl, D, Z, L, T, lf, 8192, tx, fl, 0⟩ c = ⟨pl, D, Z, L, T, lf, 8192, tx, fl, 34⟩) := Lib.hid (by unfold ended; rw [if_pos (.inl rfl)]; rfl)
    rw [hs.out]
    have hb := Lib.hid (fun w => rbad_any ⟨pl, D, Z, L, T, lf, 8192, tx, fl, 0⟩ A fl.length cap 34 w)
    unfold sv svC St.err at hb
    unfold RStp sv svC
    dsimp only at hb ⊢
    generalize str tx = st at *
    go_enter Tryd.func52, Tryd.ntmps52
    go_wp2_with fail
    refine (hb.out _).mono ?_
    rintro e w2 ⟨rfl, rfl⟩
    go_wp2
    exact ret_one rfl rfl rfl (Blk.new4 w _ _ _ _ _) Tryd.underlying29 rfl (by kernel_rfl) ⟨A, cap, rfl, Hr.out.below (below4 _ _ _ _ _), .inl (by first | trivial | exact ⟨rfl, rfl⟩ | rfl | simp), below4 _ _ _ _ _⟩
  · have q1 : ((sc : Int) == 8192) = false := beq_cast_false k1
    have hsl : sc < 8192 := by omega
    by_cases k2 : c.toNat = 0
    · have q2 : ((c.toNat : Int) == 0) = true := beq_cast_true k2
      have hs : Hid (ended ⟨pl, D, Z, L, T, lf, sc, tx, fl, 0⟩ c = ⟨pl, D, Z, L, T, lf, sc, tx, fl, 34⟩) := Lib.hid (by unfold ended; rw [if_pos (.inr (.inl k2))]; rfl)
      rw [hs.out]
      replace k1 := Lib.hid k1
      replace k2 := Lib.hid k2
      have hb := Lib.hid (fun w => rbad_any ⟨pl, D, Z, L, T, lf, sc, tx, fl, 0⟩ A fl.length cap 34 w)
      unfold sv svC St.err at hb
      unfold RStp sv svC
      dsimp only at hb ⊢
      generalize str tx = st at *
      go_enter Tryd.func52, Tryd.ntmps52
      go_wp2_with fail
      refine (hb.out _).mono ?_
      rintro e w2 ⟨rfl, rfl⟩
      go_wp2
      exact ret_one rfl rfl rfl (Blk.new4 w _ _ _ _ _) Tryd.underlying29 rfl (by kernel_rfl) ⟨A, cap, rfl, Hr.out.below (below4 _ _ _ _ _), .inl (by first | trivial | exact ⟨rfl, rfl⟩ | rfl | simp), below4 _ _ _ _ _⟩
    · have q2 : ((c.toNat : Int) == 0) = false := beq_cast_false k2
      have hw : pl = 7 ∨ pl = 6 := by omega
      rcases hw with rfl | rfl
      · by_cases k3 : c.toNat = 10
        · have q3 : ((c.toNat : Int) == 10) = true := beq_cast_true k3
          have q5 : ((c.toNat : Int) != 10) = false := by rw [k3]; rfl
          have q4 : ((c.toNat : Int) == 13) = false := beq_cast_false (show c.toNat ≠ 13 by omega)
          have n1 : ¬ (sc = 8192 ∨ c.toNat = 0 ∨ (decide (c.toNat = 10) != decide (7 = 7)) = true) := by
            rintro (e | e | e)
            · exact k1 e
            · exact k2 e
            · rw [decide_eq_true k3] at e; exact absurd e (by decide)
          have n2 : c.toNat ≠ 13 := by omega
          by_cases k0 : tx = []
          · subst k0
            have hs : Hid (ended ⟨7, D, Z, L, T, lf, sc, [], fl, 0⟩ c = ⟨8, D, Z, L, T, lf, sc + 1, [], fl, 0⟩) := Lib.hid (by unfold ended; rw [if_neg n1, if_neg n2, if_neg (by omega), if_pos rfl])
            rw [hs.out]
            replace k1 := Lib.hid k1
            replace k2 := Lib.hid k2
            replace k3 := Lib.hid k3
            replace n1 := Lib.hid n1
            replace n2 := Lib.hid n2
            have q6 : (str []).toList.isEmpty = true := by rw [str_toList]; rfl
            unfold RStp sv svC
            dsimp only
            generalize str [] = st at *
            go_enter Tryd.func52, Tryd.ntmps52
            go_wp2
            exact ret_one rfl rfl rfl (Blk.new2 w _ _ _) Tryd.underlying29 rfl (by kernel_rfl) ⟨A, cap, rfl, Hr.out.below (below2 _ _ _), .inl (by first | trivial | exact ⟨rfl, rfl⟩ | rfl | simp), below2 _ _ _⟩
          · have q6 : (str tx).toList.isEmpty = false := by rw [str_toList]; cases tx with | nil => exact absurd rfl k0 | cons a r => rfl
            have hs : ended ⟨7, D, Z, L, T, lf, sc, tx, fl, 0⟩ c = match fline tx with
              | none => ⟨7, D, Z, L, T, lf, sc, tx, fl, 34⟩
              | some f => if fl.length = 64 then ⟨7, D, Z, L, T, lf, sc, tx, fl, 34⟩ else ⟨6, D, Z, L, T, lf, sc + 1, [], fl ++ [f], 0⟩ := by
              unfold ended
              rw [if_neg n1, if_neg n2, if_neg (by omega), if_neg k0]
              cases fline tx <;> rfl
            have hL := rline_any tx
            replace hL : ∀ w, Calls Tryd.prog 66 #[.string (str tx)] w (LineR tx w) := fun w => hL w (by omega)
            unfold LineR at hL
            have hb := fun w => rbad_any ⟨7, D, Z, L, T, lf, sc, tx, fl, 0⟩ A fl.length cap 34 w
            unfold sv svC St.err at hb
            dsimp only at hb
            replace k0 := Lib.hid k0
            replace k1 := Lib.hid k1
            replace k2 := Lib.hid k2
            replace k3 := Lib.hid k3
            replace n1 := Lib.hid n1
            replace n2 := Lib.hid n2
            have hB2 := Lib.hid (below2 w (.cells (svC ⟨7, D, Z, L, T, lf, sc, tx, fl, 0⟩ (.slice A fl.length cap)) 29) (.cells #[.int .i64 0, .int .i64 0, .int .i64 0, .int .i64 0, .int .i64 0, .int .i64 0, .int .i64 0, .string ⟨#[]⟩, .slice none 0 0, .int .i64 0] 29))
            have hS2 := Lib.hid ((Blk.new w 29 (svC ⟨7, D, Z, L, T, lf, sc, tx, fl, 0⟩ (.slice A fl.length cap))).alloc (.cells #[.int .i64 0, .int .i64 0, .int .i64 0, .int .i64 0, .int .i64 0, .int .i64 0, .int .i64 0, .string ⟨#[]⟩, .slice none 0 0, .int .i64 0] 29))
            have hR2 := Lib.hid (Blk.new2 w 29 (svC ⟨7, D, Z, L, T, lf, sc, tx, fl, 0⟩ (.slice A fl.length cap)) #[.int .i64 0, .int .i64 0, .int .i64 0, .int .i64 0, .int .i64 0, .int .i64 0, .int .i64 0, .string ⟨#[]⟩, .slice none 0 0, .int .i64 0])
            unfold svC at hB2 hS2 hR2
            dsimp only at hB2 hS2 hR2
            cases hfl2 : fline tx with
            | none =>
              rw [hfl2] at hs hL
              rw [hs]
              replace hs := Lib.hid hs
              unfold RStp sv svC
              dsimp only
              generalize str tx = st at *
              replace hL := Lib.hid hL
              replace hb := Lib.hid hb
              go_enter Tryd.func52, Tryd.ntmps52
              go_wp2_with fail
              refine (hL.out _).mono ?_
              rintro e w2 ⟨nn, vv, rfl, hnv, hb2⟩
              have hB3 := Lib.hid (Below.next hB2.out hB2.out.size hb2)
              have hS3 := Lib.hid (hS2.out.below hb2)
              have hR3 := Lib.hid (hR2.out.below hb2)
              have hsz : w.heap.size + 2 ≤ w2.heap.size := by have h := hb2.size; rw [alloc_size', alloc_size'] at h; omega
              clear hb2
              have hS4 := hS3.out.alloc (.cells #[.string nn, .string vv] 63)
              have hR4 := ((hR3.out.alloc (.cells #[.string nn, .string vv] 63)).alloc (.cells #[.int .i64 7, .int .i64 D, .int .i64 Z, .int .i64 L, .int .i64 T, .int .i64 lf, .int .i64 sc, .string st, .slice A fl.length cap, .int .i64 34] 29)).alloc (.cells #[.int .i64 7, .int .i64 D, .int .i64 Z, .int .i64 L, .int .i64 T, .int .i64 lf, .int .i64 sc, .string st, .slice A fl.length cap, .int .i64 34] 29)
              have sc0 := hS4.cell 0
              have sc1 := hS4.cell 1
              have sc2 := hS4.cell 2
              have sc3 := hS4.cell 3
              have sc4 := hS4.cell 4
              have sc5 := hS4.cell 5
              have sc6 := hS4.cell 6
              have sc7 := hS4.cell 7
              have sc8 := hS4.cell 8
              have sc9 := hS4.cell 9
              have rc0 := hR4.cell 0
              have rc1 := hR4.cell 1
              have rc2 := hR4.cell 2
              have rc3 := hR4.cell 3
              have rc4 := hR4.cell 4
              have rc5 := hR4.cell 5
              have rc6 := hR4.cell 6
              have rc7 := hR4.cell 7
              have rc8 := hR4.cell 8
              have rc9 := hR4.cell 9
              have rf0 := hR4.frozen 0
              have rf1 := hR4.frozen 1
              have rf2 := hR4.frozen 2
              have rf3 := hR4.frozen 3
              have rf4 := hR4.frozen 4
              have rf5 := hR4.frozen 5
              have rf6 := hR4.frozen 6
              have rf7 := hR4.frozen 7
              have rf8 := hR4.frozen 8
              have rf9 := hR4.frozen 9
              replace hS4 := Lib.hid hS4
              replace hR4 := Lib.hid hR4
              go_wp2_with fail
              refine (hb.out _).mono ?_
              rintro e w3 ⟨rfl, rfl⟩
              go_wp2
              exact ret_one rfl rfl rfl (setTen hR4.out _ _ _ _ _ _ _ _ _ _) Tryd.underlying29 rfl (by kernel_rfl) ⟨A, cap, rfl, Hr.out.below (belowTen (below_l3 hB3.out (by omega) _ _ _) (by omega) _ _ _ _ _ _ _ _ _ _), .inl (by first | trivial | exact ⟨rfl, rfl⟩ | rfl | simp), belowTen (below_l3 hB3.out (by omega) _ _ _) (by omega) _ _ _ _ _ _ _ _ _ _⟩
            | some f =>
              obtain ⟨fa, fb⟩ := f
              rw [hfl2] at hs hL
              by_cases k4 : fl.length = 64
              · have q7 : ((fl.length : Int) == 64) = true := beq_cast_true k4
                replace hs := hs.trans (if_pos k4)
                rw [hs]
                replace hs := Lib.hid hs
                replace k4 := Lib.hid k4
                unfold RStp sv svC
                dsimp only
                generalize str tx = st at *
                replace hL := Lib.hid hL
                replace hb := Lib.hid hb
                go_enter Tryd.func52, Tryd.ntmps52
                go_wp2_with fail
                refine (hL.out _).mono ?_
                rintro e w2 ⟨nn, vv, rfl, hnv, hb2⟩
                have hB3 := Lib.hid (Below.next hB2.out hB2.out.size hb2)
                have hS3 := Lib.hid (hS2.out.below hb2)
                have hR3 := Lib.hid (hR2.out.below hb2)
                have hsz : w.heap.size + 2 ≤ w2.heap.size := by have h := hb2.size; rw [alloc_size', alloc_size'] at h; omega
                clear hb2
                have hS4 := hS3.out.alloc (.cells #[.string nn, .string vv] 63)
                have hR4 := ((hR3.out.alloc (.cells #[.string nn, .string vv] 63)).alloc (.cells #[.int .i64 7, .int .i64 D, .int .i64 Z, .int .i64 L, .int .i64 T, .int .i64 lf, .int .i64 sc, .string st, .slice A fl.length cap, .int .i64 34] 29)).alloc (.cells #[.int .i64 7, .int .i64 D, .int .i64 Z, .int .i64 L, .int .i64 T, .int .i64 lf, .int .i64 sc, .string st, .slice A fl.length cap, .int .i64 34] 29)
                have sc0 := hS4.cell 0
                have sc1 := hS4.cell 1
                have sc2 := hS4.cell 2
                have sc3 := hS4.cell 3
                have sc4 := hS4.cell 4
                have sc5 := hS4.cell 5
                have sc6 := hS4.cell 6
                have sc7 := hS4.cell 7
                have sc8 := hS4.cell 8
                have sc9 := hS4.cell 9
                have rc0 := hR4.cell 0
                have rc1 := hR4.cell 1
                have rc2 := hR4.cell 2
                have rc3 := hR4.cell 3
                have rc4 := hR4.cell 4
                have rc5 := hR4.cell 5
                have rc6 := hR4.cell 6
                have rc7 := hR4.cell 7
                have rc8 := hR4.cell 8
                have rc9 := hR4.cell 9
                have rf0 := hR4.frozen 0
                have rf1 := hR4.frozen 1
                have rf2 := hR4.frozen 2
                have rf3 := hR4.frozen 3
                have rf4 := hR4.frozen 4
                have rf5 := hR4.frozen 5
                have rf6 := hR4.frozen 6
                have rf7 := hR4.frozen 7
                have rf8 := hR4.frozen 8
                have rf9 := hR4.frozen 9
                replace hS4 := Lib.hid hS4
                replace hR4 := Lib.hid hR4
                go_wp2_with fail
                refine (hb.out _).mono ?_
                rintro e w3 ⟨rfl, rfl⟩
                go_wp2
                exact ret_one rfl rfl rfl (setTen hR4.out _ _ _ _ _ _ _ _ _ _) Tryd.underlying29 rfl (by kernel_rfl) ⟨A, cap, rfl, Hr.out.below (belowTen (below_l3 hB3.out (by omega) _ _ _) (by omega) _ _ _ _ _ _ _ _ _ _), .inl (by first | trivial | exact ⟨rfl, rfl⟩ | rfl | simp), belowTen (below_l3 hB3.out (by omega) _ _ _) (by omega) _ _ _ _ _ _ _ _ _ _⟩
              · have q7 : ((fl.length : Int) == 64) = false := beq_cast_false k4
                replace hs := hs.trans (if_neg k4)
                rw [hs]
                replace hs := Lib.hid hs
                replace k4 := Lib.hid k4
                unfold RStp sv svC
                dsimp only
                generalize str tx = st at *
                replace hL := Lib.hid hL
                replace hb := Lib.hid hb
                go_enter Tryd.func52, Tryd.ntmps52
                go_wp2_with fail
                refine (hL.out _).mono ?_
                rintro e w2 ⟨nn, vv, rfl, hnv, hb2⟩
                have hB3 := Lib.hid (Below.next hB2.out hB2.out.size hb2)
                have hS3 := Lib.hid (hS2.out.below hb2)
                have hR3 := Lib.hid (hR2.out.below hb2)
                have hsz : w.heap.size + 2 ≤ w2.heap.size := by have h := hb2.size; rw [alloc_size', alloc_size'] at h; omega
                clear hb2
                obtain ⟨rfl, rfl⟩ := hnv _ _ rfl
                have hF4 := Blk.new w2 63 #[.string (str fa), .string (str fb)]
                have hB4 := hB3.out.alloc hB3.out.size (.cells #[.string (str fa), .string (str fb)] 63)
                have hS4 := hS3.out.alloc (.cells #[.string (str fa), .string (str fb)] 63)
                have hR4 := hR3.out.alloc (.cells #[.string (str fa), .string (str fb)] 63)
                have hw3s := alloc_size' w2 (.cells #[.string (str fa), .string (str fb)] 63)
                have c8 := hS4.cell 8
                go_wp2
                clear c8
                generalize w2.alloc (.cells #[.string (str fa), .string (str fb)] 63) = w3 at *
                have hHr3 := Hr.out.below hB4
                have hG5 : w.heap.size < w2.heap.size := by omega
                have hprs := Lib.hid (prs_snoc fl (fa, fb))
                have L : SK w.heap.size w2.heap.size (.string (str fa)) (.string (str fb)) w3 := ⟨C8.of (hS4.cell 8), hF4.cell 0, hF4.cell 1⟩
                have hC3 : C8 w.heap.size w3 = .slice A fl.length cap := C8.eq (hS4.cell 8)
                have hC3d : C8 w.heap.size w3.drew = .slice A fl.length cap := C8.eq (hS4.cell 8)
                have hE0 := World.ownsRow_made (base := w3.heap.size) (size := 2) (e := 63) w3 #[] 0 (Nat.le_refl _) (Nat.zero_le _) rfl
                generalize w2.heap.size = g5 at *
                generalize str fa = sfa at *
                generalize str fb = sfb at *
                have c8 := hS4.cell 8
                have b1 : ∀ X, Below (g5 + 1) w3 (w3.alloc X) := fun X => (Below.refl _ _).alloc (by omega) X
                have b2 : ∀ X Y, Below (g5 + 1) w3 ((w3.alloc X).alloc Y) := fun X Y => (b1 X).alloc (by rw [alloc_size']; omega) Y
                have c8a : ∀ X, (w3.alloc X).cell? ⟨w.heap.size, 8, none⟩ = some (.slice A fl.length cap) := fun X => by rw [(b1 X).cell (p := ⟨w.heap.size, 8, none⟩) (by show w.heap.size < _; omega)]; exact c8
                have c8b : ∀ X Y, ((w3.alloc X).alloc Y).cell? ⟨w.heap.size, 8, none⟩ = some (.slice A fl.length cap) := fun X Y => by rw [(b2 X Y).cell (p := ⟨w.heap.size, 8, none⟩) (by show w.heap.size < _; omega)]; exact c8
                have hsX : ∀ X, (w3.alloc X).heap.size = g5 + 2 := fun X => by rw [alloc_size', hw3s]
                have hE1 : ∀ X, Own ((w3.alloc X).alloc (.cells #[] 63)) (g5 + 1) 63 2 (.slice (some ⟨g5 + 2, 0, none⟩) 0 0) 0 [] := fun X => by
                  have h := World.ownsRow_made (base := g5 + 1) (size := 2) (e := 63) (w3.alloc X) #[] 0 (by rw [hsX]; omega) (Nat.zero_le _) rfl
                  rw [hsX] at h; exact h
                have hPa := (Blk.new w3 63 #[.string sfa, .string sfb]).alloc (.cells #[] 63)
                have hPb := Blk.new (w3.alloc (.cells #[] 63)) 63 #[.string sfa, .string sfb]
                have hR1 : ∀ X, Rd (w3.alloc X) 2 (.slice A fl.length cap) fl.length (prs fl) := fun X => hHr3.below ((Below.refl _ _).alloc (Nat.le_refl _) X)
                have hR2' : ∀ X Y, Rd ((w3.alloc X).alloc Y) 2 (.slice A fl.length cap) fl.length (prs fl) := fun X Y => (hR1 X).below ((Below.refl _ _).alloc (Nat.le_refl _) Y)
                rw [hw3s] at hE0 hPa
                rw [hsX] at hPb
                have hl8 : ∀ w5, Below (g5 + 1) w3 w5 → Blk w5 w.heap.size 29 _ := fun w5 hb => (hb.block w.heap.size (by omega)).trans hS4
                have hl9 : ∀ w5, Below (g5 + 1) w3 w5 → Blk w5 (w.heap.size + 1) 29 _ := fun w5 hb => (hb.block (w.heap.size + 1) (by omega)).trans hR4
                have hE0d : Own ((w3.alloc (.cells #[] 63)).drew) (g5 + 1) 63 2 (.slice (some ⟨g5 + 1, 0, none⟩) 0 0) 0 [] := hE0
                have hE0e : ∀ X, Own (((w3.alloc (.cells #[] 63)).alloc X).drew) (g5 + 1) 63 2 (.slice (some ⟨g5 + 1, 0, none⟩) 0 0) 0 [] := fun X => World.ownsRow.alloc hE0 X
                have hE1d : ∀ X, Own (((w3.alloc X).alloc (.cells #[] 63)).drew) (g5 + 1) 63 2 (.slice (some ⟨g5 + 2, 0, none⟩) 0 0) 0 [] := fun X => hE1 X
                have hPad := hPa.drew
                have hPbd := hPb.drew
                have hR1d : ∀ X, Rd ((w3.alloc X).drew) 2 (.slice A fl.length cap) fl.length (prs fl) := fun X => hR1 X
                have hR2d : ∀ X Y, Rd (((w3.alloc X).alloc Y).drew) 2 (.slice A fl.length cap) fl.length (prs fl) := fun X Y => hR2' X Y
                have b1d : ∀ X, Below (g5 + 1) w3 ((w3.alloc X).drew) := fun X => (b1 X).drew
                have b2d : ∀ X Y, Below (g5 + 1) w3 (((w3.alloc X).alloc Y).drew) := fun X Y => (b2 X Y).drew
                replace hE0d := Lib.hid hE0d
                replace hE0e := Lib.hid hE0e
                replace hE1d := Lib.hid hE1d
                replace hPad := Lib.hid hPad
                replace hPbd := Lib.hid hPbd
                replace hR1d := Lib.hid hR1d
                replace hR2d := Lib.hid hR2d
                replace b1d := Lib.hid b1d
                replace b2d := Lib.hid b2d
                clear hE0 hE1 hPa hPb hR1 hR2' b1 b2
                have hF5 : ∀ w5, Below (g5 + 1) w3 w5 → Blk w5 g5 63 #[.string sfa, .string sfb] := fun w5 hb => (hb.block g5 (by omega)).trans hF4
                have e0 := hF4.cell 0
                have e1 := hF4.cell 1
                have e0a : ∀ X, (w3.alloc X).cell? ⟨g5, 0, none⟩ = some (.string sfa) := fun X => (hF5 _ (b1d.out X)).cell 0
                have e1a : ∀ X, (w3.alloc X).cell? ⟨g5, 1, none⟩ = some (.string sfb) := fun X => (hF5 _ (b1d.out X)).cell 1
                have e0b : ∀ X Y, ((w3.alloc X).alloc Y).cell? ⟨g5, 0, none⟩ = some (.string sfa) := fun X Y => (hF5 _ (b2d.out X Y)).cell 0
                have e1b : ∀ X Y, ((w3.alloc X).alloc Y).cell? ⟨g5, 1, none⟩ = some (.string sfb) := fun X Y => (hF5 _ (b2d.out X Y)).cell 1
                replace hF5 := Lib.hid hF5
                replace hl8 := Lib.hid hl8
                replace hl9 := Lib.hid hl9
                replace hS4 := Lib.hid hS4
                replace hF4 := Lib.hid hF4
                replace hR4 := Lib.hid hR4
                replace hB4 := Lib.hid hB4
                replace hHr3 := Lib.hid hHr3
                have hone2 : ∀ u ∈ [Value.string sfa, Value.string sfb], u.oneCell' = true := prs_one [(bs sfa, bs sfb)] |> fun h => by simpa [prs, str_bs] using h
                go_region_law
                  (first
                    | (refine stepR_push (A := A) (n := 0) (m := fl.length) (c := cap) (xs := []) (news := prs fl) (B := g5 + 1) (v := .slice (some ⟨g5 + 1, 0, none⟩) 0 0) 27 63 (.agg #[.string ⟨#[]⟩, .string ⟨#[]⟩]) 2 32 _ _ (by rfl) (by rfl) Tryd.underlying27 infoR2 (by rfl) (by decide) (by decide) (by rfl) (by exact hE0d.out) (by rfl) (by exact hR1d.out _) (prs_one _) (by omega) (by simp; omega) ?_; intro v4 w4 ho4 hg4; have hW4 : Below (g5 + 1) w3 w4 := (b1d.out _).trans (below_grown hE0d.out hg4 (by simp; omega)); have u0 := (hF5.out w4 hW4).cell 0; have u1 := (hF5.out w4 hW4).cell 1; clear hg4)
                    | (refine stepR_push (A := A) (n := 0) (m := fl.length) (c := cap) (xs := []) (news := prs fl) (B := g5 + 1) (v := .slice (some ⟨g5 + 1, 0, none⟩) 0 0) 27 63 (.agg #[.string ⟨#[]⟩, .string ⟨#[]⟩]) 2 32 _ _ (by rfl) (by rfl) Tryd.underlying27 infoR2 (by rfl) (by decide) (by decide) (by rfl) (by exact hE0e.out _) (by rfl) (by exact hR2d.out _ _) (prs_one _) (by omega) (by simp; omega) ?_; intro v4 w4 ho4 hg4; have hW4 : Below (g5 + 1) w3 w4 := (b2d.out _ _).trans (below_grown (hE0e.out _) hg4 (by simp; omega)); have hP4 := Lib.hid (Rd.two (Ck.Blk.grown hPbd.out hg4 (by simp [Value.ownBlock]))); have u0 := (hF5.out w4 hW4).cell 0; have u1 := (hF5.out w4 hW4).cell 1; clear hg4)
                    | (refine stepR_push (A := A) (n := 0) (m := fl.length) (c := cap) (xs := []) (news := prs fl) (B := g5 + 1) (v := .slice (some ⟨g5 + 2, 0, none⟩) 0 0) 27 63 (.agg #[.string ⟨#[]⟩, .string ⟨#[]⟩]) 2 32 _ _ (by rfl) (by rfl) Tryd.underlying27 infoR2 (by rfl) (by decide) (by decide) (by rfl) (by exact hE1d.out _) (by rfl) (by exact hR2d.out _ _) (prs_one _) (by omega) (by simp; omega) ?_; intro v4 w4 ho4 hg4; have hW4 : Below (g5 + 1) w3 w4 := (b2d.out _ _).trans (below_grown (hE1d.out _) hg4 (by simp; omega)); have hP4 := Lib.hid (Rd.two (Ck.Blk.grown hPad.out hg4 (by simp [Value.ownBlock]))); have u0 := (hF5.out w4 hW4).cell 0; have u1 := (hF5.out w4 hW4).cell 1; clear hg4)
                    | (refine stepR_push (n := 0 + fl.length) (m := 1) (c := 1) (xs := [] ++ prs fl) (news := [.string sfa, .string sfb]) (B := g5 + 1) 27 63 (.agg #[.string ⟨#[]⟩, .string ⟨#[]⟩]) 2 32 _ _ (by rfl) (by rfl) Tryd.underlying27 infoR2 (by rfl) (by decide) (by decide) (by rfl) (by first | exact ho4 | exact World.ownsRow.alloc ho4 _) (by rfl) (by first | exact hP4.out | exact Rd.two (Blk.new w4 _ _)) hone2 (by omega) (by have := hW4.size; simp; omega) ?_; intro v5 w5 ho5 hg5; obtain ⟨A5, cap5, rfl, hc5, -, -⟩ := Rd.own ho5; have hW5 : Below (g5 + 1) w3 w5 := (by have := hW4.size; first | exact hW4.trans (below_grown ho4 hg5 (by omega)) | exact (hW4.alloc (by omega) _).trans (below_grown (World.ownsRow.alloc ho4 _) hg5 (by simp; omega))); have c8v := (hl8.out w5 hW5).cell 8; have f8v := (hl8.out w5 hW5).frozen 8; clear hg5)
                )
                all_goals (
                  have hb8 := hl8.out w5 hW5
                  have hb9 := hl9.out w5 hW5
                  have x0 := hb8.cell 0
                  have y0 := hb9.cell 0
                  have z0 := hb9.frozen 0
                  have x1 := hb8.cell 1
                  have y1 := hb9.cell 1
                  have z1 := hb9.frozen 1
                  have x2 := hb8.cell 2
                  have y2 := hb9.cell 2
                  have z2 := hb9.frozen 2
                  have x3 := hb8.cell 3
                  have y3 := hb9.cell 3
                  have z3 := hb9.frozen 3
                  have x4 := hb8.cell 4
                  have y4 := hb9.cell 4
                  have z4 := hb9.frozen 4
                  have x5 := hb8.cell 5
                  have y5 := hb9.cell 5
                  have z5 := hb9.frozen 5
                  have x6 := hb8.cell 6
                  have y6 := hb9.cell 6
                  have z6 := hb9.frozen 6
                  have x7 := hb8.cell 7
                  have y7 := hb9.cell 7
                  have z7 := hb9.frozen 7
                  have x8 := hb8.cell 8
                  have y8 := hb9.cell 8
                  have z8 := hb9.frozen 8
                  have x9 := hb8.cell 9
                  have y9 := hb9.cell 9
                  have z9 := hb9.frozen 9
                  have xf0 := hb8.frozen 0
                  have xf6 := hb8.frozen 6
                  have xf7 := hb8.frozen 7
                  replace hb8 := Lib.hid hb8
                  replace hb9 := Lib.hid hb9
                  replace ho5 := Lib.hid ho5
                  replace hW5 := Lib.hid hW5
                  clear c8v f8v
                  go_wp2
                  have hlen : (fl ++ [(fa, fb)]).length = fl.length + 1 := by simp
                  have ho6 : Own w5 (g5 + 1) 63 2 (.slice A5 (fl.length + 1) cap5) (fl.length + 1) (prs (fl ++ [(fa, fb)])) := by
                    have h := ho5.out
                    rw [Nat.zero_add, List.nil_append] at h
                    rw [hprs.out]
                    exact h
                  have hk4 := ((((Kp.refl (fun j => j = w.heap.size ∨ j = w.heap.size + 1) w5).set_ (g := w.heap.size) (fun _ => .inl rfl) 8 (.slice A5 (fl.length + 1) cap5)).set_ (g := w.heap.size) (fun _ => .inl rfl) 0 (.int .i64 6)).set_ (g := w.heap.size) (fun _ => .inl rfl) 7 (.string ⟨#[]⟩)).set_ (g := w.heap.size) (fun _ => .inl rfl) 6 (.int .i64 (sc + 1 : Int))
                  have hoff : Off (fun j => j = w.heap.size ∨ j = w.heap.size + 1) (.slice A5 (fl.length + 1) cap5) := fun j hj e => by
                    have h1 := (World.ownsRow.lt ho6 j hj).1
                    rcases e with e | e <;> omega
                  have hbl := (((((hB4.out.trans (hW5.out.mono (by omega))).setCell (p := ⟨w.heap.size, 8, none⟩) (Nat.le_refl _) (.slice A5 (fl.length + 1) cap5)).setCell (p := ⟨w.heap.size, 0, none⟩) (Nat.le_refl _) (.int .i64 6)).setCell (p := ⟨w.heap.size, 7, none⟩) (Nat.le_refl _) (.string ⟨#[]⟩)).setCell (p := ⟨w.heap.size, 6, none⟩) (Nat.le_refl _) (.int .i64 (sc + 1 : Int)))
                  have hf9 := (((hb9.out.far (p := ⟨w.heap.size, 8, none⟩) (by simp) (.slice A5 (fl.length + 1) cap5)).far (p := ⟨w.heap.size, 0, none⟩) (by simp) (.int .i64 6)).far (p := ⟨w.heap.size, 7, none⟩) (by simp) (.string ⟨#[]⟩)).far (p := ⟨w.heap.size, 6, none⟩) (by simp) (.int .i64 (sc + 1 : Int))
                  exact ret_one rfl rfl rfl (setTen hf9 _ _ _ _ _ _ _ _ _ _) Tryd.underlying29 rfl (by kernel_rfl)
                    ⟨A5, cap5, by rw [hlen]; rfl, by rw [hlen]; exact Rd.own (Own.kp ho6 hoff (kpTen hk4 (.inr rfl) _ _ _ _ _ _ _ _ _ _)), .inr (fun j hj => by rw [hlen] at hj; have h1 := (World.ownsRow.lt ho6 j hj).1; omega), belowTen hbl (by omega) _ _ _ _ _ _ _ _ _ _⟩)
        · have q3 : ((c.toNat : Int) == 10) = false := beq_cast_false k3
          have hs : Hid (ended ⟨7, D, Z, L, T, lf, sc, tx, fl, 0⟩ c = ⟨7, D, Z, L, T, lf, sc, tx, fl, 34⟩) := Lib.hid (by unfold ended; rw [if_pos (.inr (.inr (by rw [decide_eq_false k3]; rfl)))]; rfl)
          rw [hs.out]
          replace k1 := Lib.hid k1
          replace k2 := Lib.hid k2
          replace k3 := Lib.hid k3
          have hb := Lib.hid (fun w => rbad_any ⟨7, D, Z, L, T, lf, sc, tx, fl, 0⟩ A fl.length cap 34 w)
          unfold sv svC St.err at hb
          unfold RStp sv svC
          dsimp only at hb ⊢
          generalize str tx = st at *
          go_enter Tryd.func52, Tryd.ntmps52
          go_wp2_with fail
          refine (hb.out _).mono ?_
          rintro e w2 ⟨rfl, rfl⟩
          go_wp2
          exact ret_one rfl rfl rfl (Blk.new4 w _ _ _ _ _) Tryd.underlying29 rfl (by kernel_rfl) ⟨A, cap, rfl, Hr.out.below (below4 _ _ _ _ _), .inl (by first | trivial | exact ⟨rfl, rfl⟩ | rfl | simp), below4 _ _ _ _ _⟩
      · by_cases k3 : c.toNat = 10
        · have q3 : ((c.toNat : Int) == 10) = true := beq_cast_true k3
          have hs : Hid (ended ⟨6, D, Z, L, T, lf, sc, tx, fl, 0⟩ c = ⟨6, D, Z, L, T, lf, sc, tx, fl, 34⟩) := Lib.hid (by unfold ended; rw [if_pos (.inr (.inr (by rw [decide_eq_true k3]; rfl)))]; rfl)
          rw [hs.out]
          replace k1 := Lib.hid k1
          replace k2 := Lib.hid k2
          replace k3 := Lib.hid k3
          have hb := Lib.hid (fun w => rbad_any ⟨6, D, Z, L, T, lf, sc, tx, fl, 0⟩ A fl.length cap 34 w)
          unfold sv svC St.err at hb
          unfold RStp sv svC
          dsimp only at hb ⊢
          generalize str tx = st at *
          go_enter Tryd.func52, Tryd.ntmps52
          go_wp2_with fail
          refine (hb.out _).mono ?_
          rintro e w2 ⟨rfl, rfl⟩
          go_wp2
          exact ret_one rfl rfl rfl (Blk.new4 w _ _ _ _ _) Tryd.underlying29 rfl (by kernel_rfl) ⟨A, cap, rfl, Hr.out.below (below4 _ _ _ _ _), .inl (by first | trivial | exact ⟨rfl, rfl⟩ | rfl | simp), below4 _ _ _ _ _⟩
        · have q3 : ((c.toNat : Int) == 10) = false := beq_cast_false k3
          have q5 : ((c.toNat : Int) != 10) = true := by rw [bne_iff_ne]; omega
          have n1 : ¬ (sc = 8192 ∨ c.toNat = 0 ∨ (decide (c.toNat = 10) != decide (6 = 7)) = true) := by
            rintro (e | e | e)
            · exact k1 e
            · exact k2 e
            · rw [decide_eq_false k3] at e; exact absurd e (by decide)
          by_cases k4 : c.toNat = 13
          · have q4 : ((c.toNat : Int) == 13) = true := beq_cast_true k4
            have hs : Hid (ended ⟨6, D, Z, L, T, lf, sc, tx, fl, 0⟩ c = ⟨7, D, Z, L, T, lf, sc + 1, tx, fl, 0⟩) := Lib.hid (by unfold ended; rw [if_neg n1, if_pos k4])
            rw [hs.out]
            replace k1 := Lib.hid k1
            replace k2 := Lib.hid k2
            replace k3 := Lib.hid k3
            replace k4 := Lib.hid k4
            replace n1 := Lib.hid n1
            unfold RStp sv svC
            dsimp only
            generalize str tx = st at *
            go_enter Tryd.func52, Tryd.ntmps52
            go_wp2
            exact ret_one rfl rfl rfl (Blk.new2 w _ _ _) Tryd.underlying29 rfl (by kernel_rfl) ⟨A, cap, rfl, Hr.out.below (below2 _ _ _), .inl (by first | trivial | exact ⟨rfl, rfl⟩ | rfl | simp), below2 _ _ _⟩
          · have q4 : ((c.toNat : Int) == 13) = false := beq_cast_false k4
            have hs : Hid (ended ⟨6, D, Z, L, T, lf, sc, tx, fl, 0⟩ c = ⟨6, D, Z, L, T, lf, sc + 1, tx ++ [c], fl, 0⟩) := Lib.hid (by unfold ended; rw [if_neg n1, if_neg k4, if_pos k3])
            rw [hs.out]
            replace k1 := Lib.hid k1
            replace k2 := Lib.hid k2
            replace k3 := Lib.hid k3
            replace k4 := Lib.hid k4
            replace n1 := Lib.hid n1
            have hap := Lib.hid (str_append tx [c])
            have hz1 := str_size tx
            have hz2 := str_size [c]
            have hcv : ∀ X Y : Obj, (convert 30 9 (Value.slice (some ⟨w.heap.size + 1 + 1, 0, none⟩) 1 1)).run Tryd.prog (((w.alloc X).alloc Y).alloc (.cells #[.int .u8 (c.toNat : Int)] 5)) = Result.ok (Value.string (str [c])) (((w.alloc X).alloc Y).alloc (.cells #[.int .u8 (c.toNat : Int)] 5)) := fun X Y => by
              have h := run_byte ((w.alloc X).alloc Y) c
              rw [alloc_size', alloc_size'] at h
              exact h
            unfold RStp sv svC
            dsimp only
            go_enter Tryd.func52, Tryd.ntmps52
            go_wp2
            exact ret_one rfl rfl rfl ((Blk.new2 w _ _ _).alloc _) Tryd.underlying29 rfl (by kernel_rfl) ⟨A, cap, by rw [← hap.out]; rfl, Hr.out.below ((below2 _ _ _).alloc (by rw [alloc_size', alloc_size']; omega) _), .inl (by first | trivial | exact ⟨rfl, rfl⟩ | rfl | simp), (below2 _ _ _).alloc (by rw [alloc_size', alloc_size']; omega) _⟩
end Go.Proofs.YtbegpdhkjfdjbaaDoor

