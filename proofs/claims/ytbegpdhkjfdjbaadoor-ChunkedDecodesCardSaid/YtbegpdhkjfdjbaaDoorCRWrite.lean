/-
  Layer 7: the document's Write.
-/
import Derived.Test.YtbegpdhkjfdjbaaDoorCRStep
import Derived.Deep.RegionHeld3
import Derived.Deep.DeepCutAuto
namespace Go.Proofs.YtbegpdhkjfdjbaaDoor
open Go.RowKit Syn Ck

/-- A struct in its own block and two values, handed back. -/
theorem ret_ctt {P : Program} {fn : Func} {p u1 u2 : Tmp} {ty t : TypeId} {R : Ending → World → Prop} {a : Act} {w : World} {g : Nat} {cs : Array Value} {d : TypeDesc} (h : fn.results = #[.cell p ty, .tmp u1, .tmp u2])
    (hd0 : a.defers = []) (hp : a.tmps.getD p undef = .pointer (some ⟨g, 0, none⟩)) (hb : Blk w g t cs) (hu : P.underlying ty = some d) (hd : (match d with | .struct _ | .array _ _ => true | _ => false) = true)
    (hi : (P.info? ty).map (·.size) = some cs.size) (hR : R (.returned (.tuple #[.agg cs, a.tmps.getD u1 undef, a.tmps.getD u2 undef])) w) : bodyPost P fn R .ret a w := by
  refine bodyPost_ret ?_ hd0 hR
  have e : (results fn a.tmps).run P w =
      ((asAddr (a.tmps.getD p undef)).run P w).andThen fun x w₁ => ((loadVar ty x).run P w₁).andThen fun v w₂ => .ok (.tuple #[v, a.tmps.getD u1 undef, a.tmps.getD u2 undef]) w₂ := by
    simp only [results, h]
    simp [Sem.run_bind, Result.andThen]
  rw [e, hp]
  simp [asAddr, Result.andThen, run_loadVar_row w g t ty cs (0, 0) d hb hu hd hi]
set_option maxHeartbeats 1000000 in
theorem rdone_any (s : St) (A : Option Addr) (n cap : Nat) (w : World) :
    Calls Tryd.prog 18 #[sv s (.slice A n cap)] w fun e w' => e = .returned (.bool (decide (s.place = 8))) ∧ w' = w.alloc (.cells (svC s (.slice A n cap)) 29) := by
  obtain ⟨pl, D, Z, L, T, lf, sc, tx, fl, bd⟩ := s
  unfold sv svC
  dsimp only
  generalize str tx = st at *
  by_cases h : pl = 8
  · subst h
    go_enter Tryd.func18, Tryd.ntmps18
    go_wp2
    go_ret
    exact ⟨rfl, rfl⟩
  · rw [decide_eq_false h]
    have q : ((pl : Int) == 8) = false := beq_cast_false h
    replace h := Lib.hid h
    go_enter Tryd.func18, Tryd.ntmps18
    go_wp2
    go_ret
    exact ⟨rfl, rfl⟩
/-- append of one byte, from block B on. -/
theorem pushB_u8 {ops : Array Oper} {rest : List Oper} {o : Oper} {a : Act} {Q : Exit → Act → World → Prop} {w : World} (s x : Operand)
    (hgd : o.guard = none) (ho : o.op = .call { callee := .builtin .append, args := #[s, x], argTypes := #[30, 30] })
    {n B : Nat} {v u : Value} {xs : List Value} (hs : a.eval s = v) (hown : Own w B 5 1 v n xs) (hx : a.eval x = .slice (some ⟨w.heap.size, 0, none⟩) 1 1)
    (h1 : u.oneCell' = true) (hn : n < 10000000000) (hB : B ≤ w.heap.size)
    (h : ∀ v' w', Own w' B 5 1 v' (n + 1) (xs ++ [u]) → (w.alloc (.cells #[u] 5)).grownBy w' v.ownBlock → (v'.ownBlock = v.ownBlock ∨ v'.ownBlock = some (w.heap.size + 1)) → wpList Tryd.prog ops Q rest (a.put o.dst v') w') : wpList Tryd.prog ops Q (o :: rest) a (w.alloc (.cells #[u] 5)) := by
  refine step_pushB 30 5 (.int .u8 0) 1 1 s x hgd ho Tryd.underlying30 infoU8 rfl (by decide) (by decide) hs (hown.alloc _) hx (news := [u]) rfl (cell_one_new _ _ _) ?_ hn (by rw [alloc_size']; omega) ?_
  · intro y hy; rw [List.mem_singleton] at hy; rw [hy]; exact h1
  · intro v' w' ho' hb hat
    exact h v' w' ho' hb (by rwa [alloc_size'] at hat)
namespace Ck
theorem off_alloc {w5 : World} {X : Obj} {A1 A2 : Option Addr} {n1 n2 c1 c2 : Nat} {xs : List Value} (hR : Rd w5 2 (.slice A1 n1 c1) n1 xs)
    (h : (A2 = A1 ∧ n2 = n1) ∨ ∀ j, (Value.slice A2 n2 c2).ownBlock = some j → ((w5.alloc X).drew).heap.size ≤ j) : 0 < n2 → Off (· = w5.heap.size) (.slice A2 n2 c2) := fun h0 j hj e => by
  rcases h with ⟨h1, h2⟩ | h1
  · subst h1
    have h3 := Rd.lt0 hR (by omega) j (by rw [← hj]; exact own_irr _ _ _ _ _)
    omega
  · have h3 := h1 j hj
    have h4 : ((w5.alloc X).drew).heap.size = w5.heap.size + 1 := alloc_size' _ _
    rw [h4] at h3
    omega
theorem off_keep {w5 W' : World} {F : Nat → Prop} {A1 A2 : Option Addr} {n1 n2 c1 c2 : Nat} (hO : 0 < n1 → Off F (.slice A1 n1 c1)) (hF : ∀ j, F j → j < w5.heap.size) (hs : w5.heap.size ≤ W'.heap.size)
    (h : (A2 = A1 ∧ n2 = n1) ∨ ∀ j, (Value.slice A2 n2 c2).ownBlock = some j → W'.heap.size ≤ j) : 0 < n2 → Off F (.slice A2 n2 c2) := fun h0 j hj e => by
  rcases h with ⟨h1, h2⟩ | h1
  · subst h1
    exact hO (by omega) j (by rw [← hj]; exact own_irr _ _ _ _ _) e
  · have h3 := h1 j hj
    have := hF j e
    omega
theorem wr_one3 {s s1 : St} {l out : List UInt8} {k : Nat} (h : Ck.wr s (l.take k) = (s1, out, k)) (h3 : s1.place = 3) (hb : s1.bad = 0) (hk : k < l.length) (hs : (Ck.step s1 l[k]).bad = 0) :
    Ck.wr s (l.take (k + 1)) = (Ck.step s1 l[k], out ++ [l[k]], k + 1) := by
  rw [List.take_succ_eq_append_getElem hk, wr_append, h]
  simp only
  rw [wr_go (by omega) (by omega), if_pos h3]
  simp [Ck.wr]
theorem wr_all {s s1 : St} {l out : List UInt8} {k : Nat} (h : Ck.wr s (l.take k) = (s1, out, k)) (hs : s1.bad ≠ 0 ∨ s1.place = 8) : Ck.wr s l = (s1, out, k) := by
  have := wr_append (l.take k) (l.drop k) s
  rw [List.take_append_drop, h] at this
  simp only at this
  rw [wr_stop hs] at this
  rw [this]
  simp
def zC : Array Value := #[.int .i64 0, .int .i64 0, .int .i64 0, .int .i64 0, .int .i64 0, .int .i64 0, .int .i64 0, .string ⟨#[]⟩, .slice none 0 0, .int .i64 0]
/-- What the document's Write returns. -/
def RWr (G : Nat → Prop) (w : World) (s : St) (l : List UInt8) (e : Ending) (w' : World) : Prop :=
  ∃ (A : Option Addr) (cap : Nat) (vo : Value), e = .returned (.tuple #[sv (Ck.wr s l).1 (.slice A (Ck.wr s l).1.fields.length cap), vo, .int .i64 ((Ck.wr s l).2.2 : Int)]) ∧
    Rd w' 2 (.slice A (Ck.wr s l).1.fields.length cap) (Ck.wr s l).1.fields.length (prs (Ck.wr s l).1.fields) ∧ Own w' w.heap.size 5 1 vo (Ck.wr s l).2.1.length (u8s (Ck.wr s l).2.1) ∧ Below w.heap.size w w' ∧ (0 < (Ck.wr s l).1.fields.length → Off G (.slice A (Ck.wr s l).1.fields.length cap))
/-- In the loop. -/
def RWI (G : Nat → Prop) (w : World) (s : St) (l : List UInt8) (b i : Value) (wx : World) : Prop :=
  ∃ (k : Nat) (s1 : St) (out : List UInt8) (A1 : Option Addr) (c1 : Nat), i = .int .i64 (k : Int) ∧ k ≤ l.length ∧ out.length ≤ k ∧ Hid (Ck.wr s (l.take k) = (s1, out, k)) ∧ Hid (s1.bad = 0 → Ok s1) ∧
    Hid (Blk wx w.heap.size 29 (svC s1 (.slice A1 s1.fields.length c1))) ∧ Hid (Blk wx (w.heap.size + 1) 29 zC) ∧
    Hid (Rd wx 2 (.slice A1 s1.fields.length c1) s1.fields.length (prs s1.fields)) ∧ Hid (0 < s1.fields.length → Off (fun j => j = w.heap.size ∨ j = w.heap.size + 1 ∨ b.ownBlock = some j ∨ G j) (.slice A1 s1.fields.length c1)) ∧
    Hid (Own wx (w.heap.size + 2) 5 1 b out.length (u8s out)) ∧ Hid (Below w.heap.size w wx)
end Ck
set_option maxRecDepth 100000 in
set_option maxHeartbeats 16000000 in
theorem rwrite_any (G : Nat → Prop) (s : St) (h : s.bad = 0 → Ok s) (l : List UInt8) (A : Option Addr) (cap : Nat) (B : Option Addr) (bc : Nat) (W0 : World) (hr : Rd W0 2 (.slice A s.fields.length cap) s.fields.length (prs s.fields)) (hb : Rd W0 1 (.slice B l.length bc) l.length (u8s l)) (hm : l.length ≤ 1000000000) (hGl : ∀ j, G j → j < W0.heap.size) (hOG : 0 < s.fields.length → Off G (.slice A s.fields.length cap)) :
    Calls Tryd.prog 14 #[sv s (.slice A s.fields.length cap), .slice B l.length bc] W0 (RWr G W0 s l) := by
  have hB2 := below2 W0 (.cells (svC s (.slice A s.fields.length cap)) 29) (.cells zC 29)
  have hS2 := (Blk.new W0 29 (svC s (.slice A s.fields.length cap))).alloc (.cells zC 29)
  have hZ2 := Blk.new2 W0 29 (svC s (.slice A s.fields.length cap)) zC
  have hst : RWI G W0 s l (.slice none 0 0) (.int .i64 0) ((W0.alloc (.cells (svC s (.slice A s.fields.length cap)) 29)).alloc (.cells zC 29)) := by
    refine ⟨0, s, [], A, cap, rfl, Nat.zero_le _, Nat.le_refl _, Lib.hid rfl, Lib.hid h, Lib.hid hS2, Lib.hid hZ2, Lib.hid (hr.below hB2), Lib.hid (fun h0 j hj e => ?_), Lib.hid (own_nil _ _ _ _), Lib.hid hB2⟩
    have h1 := Rd.lt0 hr h0 j hj
    rcases e with e | e | e | e
    · omega
    · omega
    · cases e
    · exact hOG h0 j hj e
  clear hS2 hZ2 hr hB2 hOG
  replace hGl := Lib.hid hGl
  replace hb := Lib.hid hb
  obtain ⟨pl, D, Z, L, T, lf, sc, tx, fl, bd⟩ := s
  unfold sv
  unfold svC at hst ⊢
  dsimp only at hst ⊢
  have hz : zC = #[.int .i64 0, .int .i64 0, .int .i64 0, .int .i64 0, .int .i64 0, .int .i64 0, .int .i64 0, .string ⟨#[]⟩, .slice none 0 0, .int .i64 0] := rfl
  rw [hz] at hst
  clear hz
  obtain ⟨s0, hs0⟩ : ∃ s0, (⟨pl, D, Z, L, T, lf, sc, tx, fl, bd⟩ : St) = s0 := ⟨_, rfl⟩
  rw [hs0] at hst h ⊢
  generalize str tx = st at *
  generalize fl.length = nf at *
  clear hs0
  go_enter Tryd.func14, Tryd.ntmps14
  go_wp2
  go_loopw [7, 8] (fun b i wx => RWI G W0 s0 l b i wx) (fun _ i _ => l.length - (intOf i).toNat)
  case atStart => exact hst
  case round =>
    clear hst
    obtain ⟨k, s1, out, A1, c1, rfl, hk, hol, hrun, hok, hS, hZ, hR, hO, hOw, hB⟩ := hrel
    have hZl := hZ.out.lt
    by_cases hlt : k < l.length
    · obtain ⟨B', c', e', -, -, r'⟩ := hb.out.below hB.out
      cases e'
      obtain ⟨b1, o1, rfl, hbl, x1⟩ := r' (by omega)
      have d1 : wr.cell? ⟨b1, o1 + k, none⟩ = some (.int .u8 (l[k].toNat : Int)) := x1 k _ (u8s_at hlt)
      have hb1 : b1 < W0.heap.size := by
        obtain ⟨B2, c2, e2, -, -, r2⟩ := hb.out
        cases e2
        obtain ⟨b2, o2, e3, hb2, -⟩ := r2 (by omega)
        cases e3; exact hb2
      by_cases hbd : s1.bad = 0
      · by_cases h8 : s1.place = 8
        · have hall := Lib.hid (wr_all hrun.out (.inr h8))
          have hdn := fun w => rdone_any s1 A1 s1.fields.length c1 w
          rw [decide_eq_true h8] at hdn
          have hSs := hS.out
          have hZs := hZ.out
          obtain ⟨p1, D1, Z1, L1, T1, lf1, sc1, tx1, fl1, bb1⟩ := s1
          unfold sv at hdn
          unfold svC at hdn hSs
          unfold zC at hZs
          simp only at hbd hSs hdn hR hO
          subst hbd
          replace hdn := Lib.hid hdn
          have s0 := hSs.cell 0
          have s1 := hSs.cell 1
          have s2 := hSs.cell 2
          have s3 := hSs.cell 3
          have s4 := hSs.cell 4
          have s5 := hSs.cell 5
          have s6 := hSs.cell 6
          have s7 := hSs.cell 7
          have s8 := hSs.cell 8
          have s9 := hSs.cell 9
          replace h8 := Lib.hid h8
          clear x1 r' d1
          go_wp2_with fail
          refine (hdn.out _).mono ?_
          rintro e w5 ⟨rfl, hw5⟩
          have hb5 : Below wr.heap.size wr w5 := by rw [hw5]; exact (Below.refl _ _).alloc (Nat.le_refl _) _
          clear hw5
          have hS5 := hSs.below hb5
          have hZ5 := hZs.below hb5
          have hR5 := hR.out.below hb5
          have hO5 := own_below hOw.out hb5
          have hB5 := Below.next hB.out hB.out.size hb5
          clear s0 s1 s2 s3 s4 s5 s6 s7 s8 s9
          have s0 := hS5.cell 0
          have s1 := hS5.cell 1
          have s2 := hS5.cell 2
          have s3 := hS5.cell 3
          have s4 := hS5.cell 4
          have s5 := hS5.cell 5
          have s6 := hS5.cell 6
          have s7 := hS5.cell 7
          have s8 := hS5.cell 8
          have s9 := hS5.cell 9
          have z0 := hZ5.cell 0
          have y0 := hZ5.frozen 0
          have z1 := hZ5.cell 1
          have y1 := hZ5.frozen 1
          have z2 := hZ5.cell 2
          have y2 := hZ5.frozen 2
          have z3 := hZ5.cell 3
          have y3 := hZ5.frozen 3
          have z4 := hZ5.cell 4
          have y4 := hZ5.frozen 4
          have z5 := hZ5.cell 5
          have y5 := hZ5.frozen 5
          have z6 := hZ5.cell 6
          have y6 := hZ5.frozen 6
          have z7 := hZ5.cell 7
          have y7 := hZ5.frozen 7
          have z8 := hZ5.cell 8
          have y8 := hZ5.frozen 8
          have z9 := hZ5.cell 9
          have y9 := hZ5.frozen 9
          replace hS5 := Lib.hid hS5
          replace hZ5 := Lib.hid hZ5
          replace hR5 := Lib.hid hR5
          replace hO5 := Lib.hid hO5
          replace hB5 := Lib.hid hB5
          clear hb5
          go_wp2
          have hk := kpTen (F := (· = W0.heap.size + 1)) (Kp.refl (· = W0.heap.size + 1) w5) (g := W0.heap.size + 1) rfl
          exact ret_ctt rfl rfl rfl (setTen hZ5.out _ _ _ _ _ _ _ _ _ _) Tryd.underlying29 rfl (by kernel_rfl) ⟨A1, c1, _, by rw [hall.out]; rfl, by rw [hall.out]; exact Rd.kp0 hR5.out (fun h0 j hj e => hO.out h0 j hj (.inr (.inl e))) (hk _ _ _ _ _ _ _ _ _ _), by rw [hall.out]; exact Own.base (Own.kp hO5.out (fun j hj e => by have := (World.ownsRow.lt hO5.out j hj).1; omega) (hk _ _ _ _ _ _ _ _ _ _)) (by omega), belowTen hB5.out (by omega) _ _ _ _ _ _ _ _ _ _, by rw [hall.out]; exact fun h0 j hj e => hO.out h0 j hj (.inr (.inr (.inr e)))⟩
        · have hok1 := hok.out hbd
          have hdn := fun w => rdone_any s1 A1 s1.fields.length c1 w
          rw [decide_eq_false h8] at hdn
          have hSt := fun w (h : Rd w 2 (.slice A1 s1.fields.length c1) s1.fields.length (prs s1.fields)) => rstep_any s1 hok1 h8 l[k] A1 c1 w h
          have hone := fun h3 => wr_one hrun.out h3 h8 hbd hlt
          have hone3 := fun h3 => wr_one3 hrun.out h3 hbd hlt
          have hfl := wr_fail hrun.out h8 hbd hlt
          have hok2 := ok_step hok1 l[k]
          have hSs := hS.out
          have hZs := hZ.out
          have hd0 : ∀ w', Below W0.heap.size W0 w' → w'.cell? ⟨b1, o1 + k, none⟩ = some (.int .u8 (l[k].toNat : Int)) := fun w' hb' => by
            have h1 := hB.out.cell (p := ⟨b1, o1 + k, none⟩) hb1
            rw [hb'.cell (p := ⟨b1, o1 + k, none⟩) hb1, ← h1]; exact d1
          obtain ⟨p1, D1, Z1, L1, T1, lf1, sc1, tx1, fl1, bb1⟩ := s1
          simp only at hbd h8 hone hone3 hok2 hfl hdn hR hO hSt
          subst hbd
          unfold RStp at hSt
          unfold sv at hdn hSt
          unfold svC at hdn hSs hSt
          unfold zC at hZs
          simp only at hdn hSs hSt
          generalize Ck.step ⟨p1, D1, Z1, L1, T1, lf1, sc1, tx1, fl1, 0⟩ l[k] = s2 at *
          generalize l[k] = c at *
          replace hdn := Lib.hid hdn
          replace hSt := Lib.hid hSt
          replace hone := Lib.hid hone
          replace hone3 := Lib.hid hone3
          replace hfl := Lib.hid hfl
          replace hok2 := Lib.hid hok2
          replace hok1 := Lib.hid hok1
          replace hd0 := Lib.hid hd0
          have q0 := hSs.cell 0
          have q1 := hSs.cell 1
          have q2 := hSs.cell 2
          have q3 := hSs.cell 3
          have q4 := hSs.cell 4
          have q5 := hSs.cell 5
          have q6 := hSs.cell 6
          have q7 := hSs.cell 7
          have q8 := hSs.cell 8
          have q9 := hSs.cell 9
          replace h8 := Lib.hid h8
          clear x1 r' d1
          go_wp2_with fail
          refine (hdn.out _).mono ?_
          rintro e w5 ⟨rfl, hw5⟩
          have hb5 : Below wr.heap.size wr w5 := by rw [hw5]; exact (Below.refl _ _).alloc (Nat.le_refl _) _
          clear hw5
          have hS5 := hSs.below hb5
          have hZ5 := hZs.below hb5
          have hR5 := hR.out.below hb5
          have hO5 := own_below hOw.out hb5
          have hB5 := Below.next hB.out hB.out.size hb5
          have hL5 := hS5.lt
          have hL6' := hZ5.lt
          have hd5 := hd0.out w5 hB5
          have hown5 := fun j (hj : u7.ownBlock = some j) => hO5.lt hj
          clear q0 q1 q2 q3 q4 q5 q6 q7 q8 q9
          have q0 := hS5.cell 0
          have q1 := hS5.cell 1
          have q2 := hS5.cell 2
          have q3 := hS5.cell 3
          have q4 := hS5.cell 4
          have q5 := hS5.cell 5
          have q6 := hS5.cell 6
          have q7 := hS5.cell 7
          have q8 := hS5.cell 8
          have q9 := hS5.cell 9
          have hK : ∀ w', Below w5.heap.size w5 w' → (Below w5.heap.size w5 w' ∧ w'.cell? ⟨W0.heap.size, 0, none⟩ = some (.int .i64 (p1 : Int)) ∧ w'.cell? ⟨W0.heap.size, 1, none⟩ = some (.int .i64 (D1 : Int)) ∧ w'.cell? ⟨W0.heap.size, 2, none⟩ = some (.int .i64 (Z1 : Int)) ∧ w'.cell? ⟨W0.heap.size, 3, none⟩ = some (.int .i64 (L1 : Int)) ∧ w'.cell? ⟨W0.heap.size, 4, none⟩ = some (.int .i64 (T1 : Int)) ∧ w'.cell? ⟨W0.heap.size, 5, none⟩ = some (.int .i64 (lf1 : Int)) ∧ w'.cell? ⟨W0.heap.size, 6, none⟩ = some (.int .i64 (sc1 : Int)) ∧ w'.cell? ⟨W0.heap.size, 7, none⟩ = some (.string (str tx1)) ∧ w'.cell? ⟨W0.heap.size, 8, none⟩ = some (.slice A1 fl1.length c1) ∧ w'.cell? ⟨W0.heap.size, 9, none⟩ = some (.int .i64 ((0 : Nat) : Int)) ∧ w'.cell? ⟨b1, o1 + k, none⟩ = some (.int .u8 (c.toNat : Int))) := fun w' hb' => ⟨hb', (hS5.below hb').cell 0, (hS5.below hb').cell 1, (hS5.below hb').cell 2, (hS5.below hb').cell 3, (hS5.below hb').cell 4, (hS5.below hb').cell 5, (hS5.below hb').cell 6, (hS5.below hb').cell 7, (hS5.below hb').cell 8, (hS5.below hb').cell 9, hd0.out w' (Below.next hB5 hB5.size hb')⟩
          replace hK := Lib.hid hK
          replace hS5 := Lib.hid hS5
          replace hZ5 := Lib.hid hZ5
          replace hR5 := Lib.hid hR5
          replace hO5 := Lib.hid hO5
          replace hB5 := Lib.hid hB5
          have hF5 : ∀ j, (j = W0.heap.size ∨ j = W0.heap.size + 1 ∨ u7.ownBlock = some j ∨ G j) → j < w5.heap.size := fun j e => by
            rcases e with e | e | e | e
            · omega
            · omega
            · exact hown5 j e
            · have := hGl.out j e; have := hB5.out.size; omega
          replace hF5 := Lib.hid hF5
          clear hown5
          clear hb5
          go_upto_region 7 with (fail)
          go_cut [9] (fun v9 wx => ∃ (g9 : Nat) (A2 : Option Addr) (c2 : Nat), v9 = .pointer (some ⟨g9, 0, none⟩) ∧ w5.heap.size ≤ g9 ∧ Blk wx g9 29 (svC s2 (.slice A2 s2.fields.length c2)) ∧ Rd wx 2 (.slice A2 s2.fields.length c2) s2.fields.length (prs s2.fields) ∧
              (0 < s2.fields.length → Off (fun j => j = W0.heap.size ∨ j = W0.heap.size + 1 ∨ u7.ownBlock = some j ∨ G j) (.slice A2 s2.fields.length c2)) ∧ Below w5.heap.size w5 wx)
          case first =>
            go_wp2_with fail
            go_region_held3 (fun w' => Below w5.heap.size w5 w' ∧ w'.cell? ⟨W0.heap.size, 0, none⟩ = some (.int .i64 (p1 : Int)) ∧ w'.cell? ⟨W0.heap.size, 1, none⟩ = some (.int .i64 (D1 : Int)) ∧ w'.cell? ⟨W0.heap.size, 2, none⟩ = some (.int .i64 (Z1 : Int)) ∧ w'.cell? ⟨W0.heap.size, 3, none⟩ = some (.int .i64 (L1 : Int)) ∧ w'.cell? ⟨W0.heap.size, 4, none⟩ = some (.int .i64 (T1 : Int)) ∧ w'.cell? ⟨W0.heap.size, 5, none⟩ = some (.int .i64 (lf1 : Int)) ∧ w'.cell? ⟨W0.heap.size, 6, none⟩ = some (.int .i64 (sc1 : Int)) ∧ w'.cell? ⟨W0.heap.size, 7, none⟩ = some (.string (str tx1)) ∧ w'.cell? ⟨W0.heap.size, 8, none⟩ = some (.slice A1 fl1.length c1) ∧ w'.cell? ⟨W0.heap.size, 9, none⟩ = some (.int .i64 ((0 : Nat) : Int)) ∧ w'.cell? ⟨b1, o1 + k, none⟩ = some (.int .u8 (c.toNat : Int)))
              (first | exact hK.out _ (by first | with_reducible exact Below.refl _ _ | with_reducible exact (Below.refl _ _).drew | with_reducible exact (Below.refl _ _).alloc (Nat.le_refl _) _ | with_reducible exact ((Below.refl _ _).alloc (Nat.le_refl _) _).drew | with_reducible exact ((Below.refl _ _).drew).alloc (Nat.le_refl _) _ | with_reducible exact belowTen (by with_reducible assumption) (Nat.le_refl _) _ _ _ _ _ _ _ _ _ _ | with_reducible exact Below.alloc (by with_reducible assumption) (Below.size (by with_reducible assumption)) _ | with_reducible assumption))
              (first | (go_at_call 33; refine (hSt.out _ (hR5.out.below (by first | with_reducible exact Below.refl _ _ | with_reducible exact (Below.refl _ _).drew | with_reducible exact (Below.refl _ _).alloc (Nat.le_refl _) _ | with_reducible exact ((Below.refl _ _).alloc (Nat.le_refl _) _).drew | with_reducible exact ((Below.refl _ _).drew).alloc (Nat.le_refl _) _ | with_reducible exact belowTen (by with_reducible assumption) (Nat.le_refl _) _ _ _ _ _ _ _ _ _ _ | with_reducible exact Below.alloc (by with_reducible assumption) (Below.size (by with_reducible assumption)) _ | with_reducible assumption))).mono ?_; rintro e w6 ⟨A2, c2, rfl, hr2, hA2, hb6⟩; have hL6 := Below.next (B := w5.heap.size) (a := w5) (by first | with_reducible exact Below.refl _ _ | with_reducible exact (Below.refl _ _).drew | with_reducible exact (Below.refl _ _).alloc (Nat.le_refl _) _ | with_reducible exact ((Below.refl _ _).alloc (Nat.le_refl _) _).drew | with_reducible exact ((Below.refl _ _).drew).alloc (Nat.le_refl _) _ | with_reducible exact belowTen (by with_reducible assumption) (Nat.le_refl _) _ _ _ _ _ _ _ _ _ _ | with_reducible exact Below.alloc (by with_reducible assumption) (Below.size (by with_reducible assumption)) _ | with_reducible assumption) (by simp) hb6; have hs6 := hL6.size; (try have p1b := Blk.below (show Blk ((w5.alloc (.cells #[.int .i64 0, .int .i64 0, .int .i64 0, .int .i64 0, .int .i64 0, .int .i64 0, .int .i64 0, .string ⟨#[]⟩, .slice none 0 0, .int .i64 0] 29)).drew) w5.heap.size 29 #[.int .i64 0, .int .i64 0, .int .i64 0, .int .i64 0, .int .i64 0, .int .i64 0, .int .i64 0, .string ⟨#[]⟩, .slice none 0 0, .int .i64 0] from Blk.new w5 _ _) hb6); (try have m0 := p1b.cell 0); (try have r0 := p1b.frozen 0); (try have m1 := p1b.cell 1); (try have r1 := p1b.frozen 1); (try have m2 := p1b.cell 2); (try have r2 := p1b.frozen 2); (try have m3 := p1b.cell 3); (try have r3 := p1b.frozen 3); (try have m4 := p1b.cell 4); (try have r4 := p1b.frozen 4); (try have m5 := p1b.cell 5); (try have r5 := p1b.frozen 5); (try have m6 := p1b.cell 6); (try have r6 := p1b.frozen 6); (try have m7 := p1b.cell 7); (try have r7 := p1b.frozen 7); (try have m8 := p1b.cell 8); (try have r8 := p1b.frozen 8); (try have m9 := p1b.cell 9); (try have r9 := p1b.frozen 9);  have hoff2 := off_keep (F := fun j => j = W0.heap.size ∨ j = W0.heap.size + 1 ∨ u7.ownBlock = some j ∨ G j) (w5 := w5) hO.out hF5.out (Below.size (B := w5.heap.size) (w := w5) (by first | with_reducible exact Below.refl _ _ | with_reducible exact (Below.refl _ _).drew | with_reducible exact (Below.refl _ _).alloc (Nat.le_refl _) _ | with_reducible exact ((Below.refl _ _).alloc (Nat.le_refl _) _).drew | with_reducible exact ((Below.refl _ _).drew).alloc (Nat.le_refl _) _ | with_reducible exact belowTen (by with_reducible assumption) (Nat.le_refl _) _ _ _ _ _ _ _ _ _ _ | with_reducible exact Below.alloc (by with_reducible assumption) (Below.size (by with_reducible assumption)) _ | with_reducible assumption)) hA2; (try have hoff1 := off_alloc hR5.out hA2); clear hA2 hb6))
            all_goals
              go_wp2_with fail
              go_meet
              refine ⟨_, A2, c2, rfl, ?_, ?_, ?_, hoff2, ?_⟩
              · first | exact Nat.le_refl _ | exact hs6
              · unfold svC; first | with_reducible exact Blk.new w6 _ _ | with_reducible exact setTen p1b _ _ _ _ _ _ _ _ _ _
              · have hk6 := kpTen (F := (· = w5.heap.size)) (Kp.refl (· = w5.heap.size) w6) (g := w5.heap.size) rfl
                first | exact Rd.kp0 hr2 hoff1 (hk6 _ _ _ _ _ _ _ _ _ _) | exact Rd.below hr2 ((Below.refl w6.heap.size w6).alloc (Nat.le_refl _) _)
              · first | with_reducible exact hL6.alloc hs6 _ | with_reducible exact belowTen hL6 (Nat.le_refl _) _ _ _ _ _ _ _ _ _ _
          case rest =>
            obtain ⟨g9, A2, c2, rfl, hg9, hb9, hr2, hoff2, hBx⟩ := hcut
            rename World => wx
            have hSx := hS5.out.below hBx
            have hZx := hZ5.out.below hBx
            have hOx := own_below hO5.out hBx
            have hBy := Below.next hB5.out hB5.out.size hBx
            have hg9l := hb9.lt
            have hpl2 : (p1 = 3 ∨ p1 ≠ 3) := Decidable.em _
            obtain ⟨p2, D2, Z2, L2, T2, lf2, sc2, tx2, fl2, bb2⟩ := s2
            unfold svC at hb9
            simp only at hone hone3 hfl hok2 hb9 hr2 hoff2
            have e0 := hb9.cell 0
            have e1 := hb9.cell 1
            have e2 := hb9.cell 2
            have e3 := hb9.cell 3
            have e4 := hb9.cell 4
            have e5 := hb9.cell 5
            have e6 := hb9.cell 6
            have e7 := hb9.cell 7
            have e8 := hb9.cell 8
            have e9 := hb9.cell 9
            have z0 := hZx.cell 0
            have y0 := hZx.frozen 0
            have z1 := hZx.cell 1
            have y1 := hZx.frozen 1
            have z2 := hZx.cell 2
            have y2 := hZx.frozen 2
            have z3 := hZx.cell 3
            have y3 := hZx.frozen 3
            have z4 := hZx.cell 4
            have y4 := hZx.frozen 4
            have z5 := hZx.cell 5
            have y5 := hZx.frozen 5
            have z6 := hZx.cell 6
            have y6 := hZx.frozen 6
            have z7 := hZx.cell 7
            have y7 := hZx.frozen 7
            have z8 := hZx.cell 8
            have y8 := hZx.frozen 8
            have z9 := hZx.cell 9
            have y9 := hZx.frozen 9
            have q0 := hSx.cell 0
            have o0 := hSx.frozen 0
            have q1 := hSx.cell 1
            have o1 := hSx.frozen 1
            have q2 := hSx.cell 2
            have o2 := hSx.frozen 2
            have q3 := hSx.cell 3
            have o3 := hSx.frozen 3
            have q4 := hSx.cell 4
            have o4 := hSx.frozen 4
            have q5 := hSx.cell 5
            have o5 := hSx.frozen 5
            have q6 := hSx.cell 6
            have o6 := hSx.frozen 6
            have q7 := hSx.cell 7
            have o7 := hSx.frozen 7
            have q8 := hSx.cell 8
            have o8 := hSx.frozen 8
            have q9 := hSx.cell 9
            have o9 := hSx.frozen 9
            replace hSx := Lib.hid hSx
            replace hZx := Lib.hid hZx
            replace hOx := Lib.hid hOx
            replace hBy := Lib.hid hBy
            replace hb9 := Lib.hid hb9
            replace hr2 := Lib.hid hr2
            replace hoff2 := Lib.hid hoff2
            replace hBx := Lib.hid hBx
            by_cases hbb : bb2 = 0
            · have qb : ((bb2 : Int) != 0) = false := by rw [hbb]; rfl
              have hkG := kpTen (F := (· = W0.heap.size)) (Kp.refl (· = W0.heap.size) wx) (g := W0.heap.size) rfl
              rcases hpl2 with rfl | h3
              · have hru := hone3.out rfl hbb
                have hok3 := hok2.out hbb
                replace hbb := Lib.hid hbb
                replace hru := Lib.hid hru
                replace hok3 := Lib.hid hok3
                clear hkG
                obtain ⟨Au, cu, rfl, -, -, -⟩ := Rd.own hOx.out
                have hBs := hBy.out.size
                have hsx := hBx.out.size
                have hAuG : ∀ j, (Value.slice Au out.length cu).ownBlock = some j → W0.heap.size + 2 ≤ j ∧ j < w5.heap.size := fun j hj => ⟨(World.ownsRow.lt hOx.out j hj).1, hF5.out j (.inr (.inr (.inl hj)))⟩
                replace hAuG := Lib.hid hAuG
                clear e0 z0 y0 q0 o0 e1 z1 y1 q1 o1 e2 z2 y2 q2 o2 e3 z3 y3 q3 o3 e4 z4 y4 q4 o4 e5 z5 y5 q5 o5 e6 z6 y6 q6 o6 e7 z7 y7 q7 o7 e8 z8 y8 q8 o8 e9 z9 y9 q9 o9
                have e0 := hb9.out.cell 0
                have e1 := hb9.out.cell 1
                have e2 := hb9.out.cell 2
                have e3 := hb9.out.cell 3
                have e4 := hb9.out.cell 4
                have e5 := hb9.out.cell 5
                have e6 := hb9.out.cell 6
                have e7 := hb9.out.cell 7
                have e8 := hb9.out.cell 8
                have e9 := hb9.out.cell 9
                have qp := hSx.out.cell 0
                have dx := hd0.out wx hBy.out
                go_wp2_with (at_builtin; go_loud (refine pushB_u8 (v := Value.slice Au out.length cu) (n := out.length) (xs := u8s out) (B := W0.heap.size + 2) _ _ rfl rfl rfl hOx.out rfl rfl (by omega) (by omega) ?_); intro v8 w8 ho8 hg8 hat8; obtain ⟨A8, c8, rfl, -, -, -⟩ := Rd.own ho8; have hk8 := Lib.hid (((Kp.refl (fun j => (Value.slice Au out.length cu).ownBlock = some j) wx).alloc _).grown hg8 (fun j hj _ => hj)); have hS8 := Lib.hid (hSx.out.kp (fun e => by have := hAuG.out _ e; omega) hk8.out); have hZ8 := Lib.hid (hZx.out.kp (fun e => by have := hAuG.out _ e; omega) hk8.out); have hb98 := Lib.hid (hb9.out.kp (fun e => by have := hAuG.out _ e; omega) hk8.out); replace ho8 := Lib.hid ho8; replace hat8 := Lib.hid hat8; clear hg8 qp e0 e1 e2 e3 e4 e5 e6 e7 e8 e9; have e0 := hb98.out.cell 0; have q0 := hS8.out.cell 0; have o0 := hS8.out.frozen 0; have e1 := hb98.out.cell 1; have q1 := hS8.out.cell 1; have o1 := hS8.out.frozen 1; have e2 := hb98.out.cell 2; have q2 := hS8.out.cell 2; have o2 := hS8.out.frozen 2; have e3 := hb98.out.cell 3; have q3 := hS8.out.cell 3; have o3 := hS8.out.frozen 3; have e4 := hb98.out.cell 4; have q4 := hS8.out.cell 4; have o4 := hS8.out.frozen 4; have e5 := hb98.out.cell 5; have q5 := hS8.out.cell 5; have o5 := hS8.out.frozen 5; have e6 := hb98.out.cell 6; have q6 := hS8.out.cell 6; have o6 := hS8.out.frozen 6; have e7 := hb98.out.cell 7; have q7 := hS8.out.cell 7; have o7 := hS8.out.frozen 7; have e8 := hb98.out.cell 8; have q8 := hS8.out.cell 8; have o8 := hS8.out.frozen 8; have e9 := hb98.out.cell 9; have q9 := hS8.out.cell 9; have o9 := hS8.out.frozen 9; skip)
                have hkG := kpTen (F := (· = W0.heap.size)) (Kp.refl (· = W0.heap.size) w8) (g := W0.heap.size) rfl
                go_roundw
                case rel =>
                  refine ⟨k + 1, ⟨p2, D2, Z2, L2, T2, lf2, sc2, tx2, fl2, bb2⟩, out ++ [c], A2, c2, by go_num, by omega, by rw [List.length_append, List.length_singleton]; omega, hru, Lib.hid (fun _ => hok3.out), ?_, ?_, ?_, ?_, ?_, ?_⟩
                  · exact Lib.hid (setTen hS8.out _ _ _ _ _ _ _ _ _ _)
                  · exact Lib.hid (Blk.kp hZ8.out (fun e => by omega) (hkG _ _ _ _ _ _ _ _ _ _))
                  · refine Lib.hid (Rd.kp0 (Rd.kp0 hr2.out (fun h0 j hj e => hoff2.out h0 j hj (.inr (.inr (.inl e)))) hk8.out) (fun h0 j hj e => hoff2.out h0 j hj (.inl e)) (hkG _ _ _ _ _ _ _ _ _ _))
                  · refine Lib.hid (fun h0 j hj e => ?_)
                    rcases e with e | e | e | e
                    · exact hoff2.out h0 j hj (.inl e)
                    · exact hoff2.out h0 j hj (.inr (.inl e))
                    rotate_left
                    · exact hoff2.out h0 j hj (.inr (.inr (.inr e)))
                    · rcases hat8.out with h1 | h1
                      · exact hoff2.out h0 j hj (.inr (.inr (.inl (by rw [← h1]; exact e))))
                      · rw [h1] at e; injection e with e
                        have := Rd.lt0 hr2.out h0 j hj
                        omega
                  · rw [u8s_snoc, List.length_append, List.length_singleton]
                    exact Lib.hid (Own.kp ho8.out (fun j hj e => by have := (World.ownsRow.lt ho8.out j hj).1; omega) (hkG _ _ _ _ _ _ _ _ _ _))
                  · exact Lib.hid (belowTen (hBy.out.trans (hk8.out.toBelow (by omega) (fun j e => by have := hAuG.out j e; omega))) (Nat.le_refl _) _ _ _ _ _ _ _ _ _ _)
                case measure => simp only [intOf]; omega
              · have q3 : ((p1 : Int) == 3) = false := beq_cast_false h3
                have hru := hone.out h3 hbb
                have hok3 := hok2.out hbb
                replace hbb := Lib.hid hbb
                replace h3 := Lib.hid h3
                replace hru := Lib.hid hru
                replace hok3 := Lib.hid hok3
                go_wp2
                go_roundw
                case rel =>
                  refine ⟨k + 1, ⟨p2, D2, Z2, L2, T2, lf2, sc2, tx2, fl2, bb2⟩, out, A2, c2, by go_num, by omega, by omega, hru, Lib.hid (fun _ => hok3.out), ?_, ?_, ?_, ?_, ?_, ?_⟩
                  · exact Lib.hid (setTen hSx.out _ _ _ _ _ _ _ _ _ _)
                  · exact Lib.hid (Blk.kp hZx.out (fun e => by omega) (hkG _ _ _ _ _ _ _ _ _ _))
                  · exact Lib.hid (Rd.kp0 hr2.out (fun h0 j hj e => hoff2.out h0 j hj (.inl e)) (hkG _ _ _ _ _ _ _ _ _ _))
                  · exact hoff2
                  · exact Lib.hid (Own.kp hOx.out (fun j hj e => by have := (World.ownsRow.lt hOx.out j hj).1; omega) (hkG _ _ _ _ _ _ _ _ _ _))
                  · exact Lib.hid (belowTen hBy.out (Nat.le_refl _) _ _ _ _ _ _ _ _ _ _)
                case measure => simp only [intOf]; omega
            · have qb : ((bb2 : Int) != 0) = true := by rw [bne_iff_ne]; omega
              have hall := Lib.hid (hfl.out hbb)
              replace hbb := Lib.hid hbb
              go_wp2
              have hk := kpTen (F := (· = W0.heap.size + 1)) (Kp.refl (· = W0.heap.size + 1) wx) (g := W0.heap.size + 1) rfl
              exact ret_ctt rfl rfl rfl (setTen hZx.out _ _ _ _ _ _ _ _ _ _) Tryd.underlying29 rfl (by kernel_rfl) ⟨A2, c2, _, by rw [hall.out]; rfl, by rw [hall.out]; exact Rd.kp0 hr2.out (fun h0 j hj e => hoff2.out h0 j hj (.inr (.inl e))) (hk _ _ _ _ _ _ _ _ _ _), by rw [hall.out]; exact Own.base (Own.kp hOx.out (fun j hj e => by have := (World.ownsRow.lt hOx.out j hj).1; omega) (hk _ _ _ _ _ _ _ _ _ _)) (by omega), belowTen hBy.out (by omega) _ _ _ _ _ _ _ _ _ _, by rw [hall.out]; exact fun h0 j hj e => hoff2.out h0 j hj (.inr (.inr (.inr e)))⟩
      · have hall := Lib.hid (wr_all hrun.out (.inl hbd))
        have hSs := hS.out
        have hZs := hZ.out
        obtain ⟨p1, D1, Z1, L1, T1, lf1, sc1, tx1, fl1, bb1⟩ := s1
        unfold svC at hSs
        unfold zC at hZs
        simp only at hbd hSs hR hO
        have qb : ((bb1 : Int) != 0) = true := by rw [bne_iff_ne]; omega
        have s0 := hSs.cell 0
        have s1 := hSs.cell 1
        have s2 := hSs.cell 2
        have s3 := hSs.cell 3
        have s4 := hSs.cell 4
        have s5 := hSs.cell 5
        have s6 := hSs.cell 6
        have s7 := hSs.cell 7
        have s8 := hSs.cell 8
        have s9 := hSs.cell 9
        have z0 := hZs.cell 0
        have y0 := hZs.frozen 0
        have z1 := hZs.cell 1
        have y1 := hZs.frozen 1
        have z2 := hZs.cell 2
        have y2 := hZs.frozen 2
        have z3 := hZs.cell 3
        have y3 := hZs.frozen 3
        have z4 := hZs.cell 4
        have y4 := hZs.frozen 4
        have z5 := hZs.cell 5
        have y5 := hZs.frozen 5
        have z6 := hZs.cell 6
        have y6 := hZs.frozen 6
        have z7 := hZs.cell 7
        have y7 := hZs.frozen 7
        have z8 := hZs.cell 8
        have y8 := hZs.frozen 8
        have z9 := hZs.cell 9
        have y9 := hZs.frozen 9
        replace hbd := Lib.hid hbd
        replace hSs := Lib.hid hSs
        replace hZs := Lib.hid hZs
        clear x1 r' d1
        go_wp2
        have hk := kpTen (F := (· = W0.heap.size + 1)) (Kp.refl (· = W0.heap.size + 1) wr) (g := W0.heap.size + 1) rfl
        exact ret_ctt rfl rfl rfl (setTen hZs.out _ _ _ _ _ _ _ _ _ _) Tryd.underlying29 rfl (by kernel_rfl) ⟨A1, c1, _, by rw [hall.out]; rfl, by rw [hall.out]; exact Rd.kp0 hR.out (fun h0 j hj e => hO.out h0 j hj (.inr (.inl e))) (hk _ _ _ _ _ _ _ _ _ _), by rw [hall.out]; exact Own.base (Own.kp hOw.out (fun j hj e => by have := (World.ownsRow.lt hOw.out j hj).1; omega) (hk _ _ _ _ _ _ _ _ _ _)) (by omega), belowTen hB.out (by omega) _ _ _ _ _ _ _ _ _ _, by rw [hall.out]; exact fun h0 j hj e => hO.out h0 j hj (.inr (.inr (.inr e)))⟩
    · obtain rfl : k = l.length := by omega
      rw [List.take_length] at hrun
      have hall := hrun
      have hSs := hS.out
      have hZs := hZ.out
      obtain ⟨p1, D1, Z1, L1, T1, lf1, sc1, tx1, fl1, bb1⟩ := s1
      unfold svC at hSs
      unfold zC at hZs
      simp only at hSs hR hO
      have s0 := hSs.cell 0
      have s1 := hSs.cell 1
      have s2 := hSs.cell 2
      have s3 := hSs.cell 3
      have s4 := hSs.cell 4
      have s5 := hSs.cell 5
      have s6 := hSs.cell 6
      have s7 := hSs.cell 7
      have s8 := hSs.cell 8
      have s9 := hSs.cell 9
      have z0 := hZs.cell 0
      have y0 := hZs.frozen 0
      have z1 := hZs.cell 1
      have y1 := hZs.frozen 1
      have z2 := hZs.cell 2
      have y2 := hZs.frozen 2
      have z3 := hZs.cell 3
      have y3 := hZs.frozen 3
      have z4 := hZs.cell 4
      have y4 := hZs.frozen 4
      have z5 := hZs.cell 5
      have y5 := hZs.frozen 5
      have z6 := hZs.cell 6
      have y6 := hZs.frozen 6
      have z7 := hZs.cell 7
      have y7 := hZs.frozen 7
      have z8 := hZs.cell 8
      have y8 := hZs.frozen 8
      have z9 := hZs.cell 9
      have y9 := hZs.frozen 9
      replace hSs := Lib.hid hSs
      replace hZs := Lib.hid hZs
      go_wp2
      have hk := kpTen (F := (· = W0.heap.size + 1)) (Kp.refl (· = W0.heap.size + 1) wr) (g := W0.heap.size + 1) rfl
      exact ret_ctt rfl rfl rfl (setTen hZs.out _ _ _ _ _ _ _ _ _ _) Tryd.underlying29 rfl (by kernel_rfl) ⟨A1, c1, _, by rw [hall.out]; rfl, by rw [hall.out]; exact Rd.kp0 hR.out (fun h0 j hj e => hO.out h0 j hj (.inr (.inl e))) (hk _ _ _ _ _ _ _ _ _ _), by rw [hall.out]; exact Own.base (Own.kp hOw.out (fun j hj e => by have := (World.ownsRow.lt hOw.out j hj).1; omega) (hk _ _ _ _ _ _ _ _ _ _)) (by omega), belowTen hB.out (by omega) _ _ _ _ _ _ _ _ _ _, by rw [hall.out]; exact fun h0 j hj e => hO.out h0 j hj (.inr (.inr (.inr e)))⟩
end Go.Proofs.YtbegpdhkjfdjbaaDoor
