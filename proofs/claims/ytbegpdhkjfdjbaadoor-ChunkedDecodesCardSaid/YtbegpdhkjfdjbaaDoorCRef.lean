/-
  Layer 7: the document's state; a byte of a size line in the document.
-/
import Derived.Test.YtbegpdhkjfdjbaaDoorCWrite
import Derived.Laws.Tables
namespace Go.Proofs.YtbegpdhkjfdjbaaDoor
open Go.RowKit Syn Ck

/-- A struct that lies in its own block, handed back. -/
theorem ret_one {P : Program} {fn : Func} {p : Tmp} {ty t : TypeId} {R : Ending → World → Prop} {a : Act} {w : World} {g : Nat} {cs : Array Value} {d : TypeDesc} (h : fn.results = #[.cell p ty])
    (hd0 : a.defers = []) (hp : a.tmps.getD p undef = .pointer (some ⟨g, 0, none⟩)) (hb : Blk w g t cs) (hu : P.underlying ty = some d) (hd : (match d with | .struct _ | .array _ _ => true | _ => false) = true)
    (hi : (P.info? ty).map (·.size) = some cs.size) (hR : R (.returned (.agg cs)) w) : bodyPost P fn R .ret a w :=
  bodyPost_ret (results_cell_row h a.tmps w g t cs (0, 0) d hp hb hu hd hi) hd0 hR
theorem Blk.new2 (w : World) (t : TypeId) (a b : Array Value) : Blk ((w.alloc (.cells a t)).alloc (.cells b t)) (w.heap.size + 1) t b := by
  have h := Blk.new (w.alloc (.cells a t)) t b
  rwa [alloc_size'] at h
theorem below2 (w : World) (A B : Obj) : Below w.heap.size w ((w.alloc A).alloc B) := ((Below.refl _ w).alloc (Nat.le_refl _) A).alloc (by rw [alloc_size']; omega) B
theorem below4 (w : World) (A B C D : Obj) : Below w.heap.size w ((((w.alloc A).alloc B).alloc C).alloc D) :=
  ((below2 w A B).alloc (by rw [alloc_size', alloc_size']; omega) C).alloc (by rw [alloc_size', alloc_size', alloc_size']; omega) D
theorem Blk.new4 (w : World) (t : TypeId) (a b c d : Array Value) : Blk ((((w.alloc (.cells a t)).alloc (.cells b t)).alloc (.cells c t)).alloc (.cells d t)) (w.heap.size + 1) t b := ((Blk.new2 w t a b).alloc _).alloc _
namespace Ck
/-- The document's state as a value. -/
def svC (s : St) (vf : Value) : Array Value := #[.int .i64 s.place, .int .i64 s.digits, .int .i64 s.number, .int .i64 s.line, .int .i64 s.total, .int .i64 s.left, .int .i64 s.sect, .string (str s.text), vf, .int .i64 s.bad]
def sv (s : St) (vf : Value) : Value := .agg (svC s vf)
end Ck
set_option maxHeartbeats 4000000 in
theorem rbad_any (s : St) (A : Option Addr) (n cap : Nat) (e : Nat) (w : World) :
    Calls Tryd.prog 51 #[sv s (.slice A n cap), .int .i64 (e : Int)] w fun r w' => r = .returned (sv (s.err e) (.slice A n cap)) ∧
      w' = (w.alloc (.cells (svC (s.err e) (.slice A n cap)) 29)).alloc (.cells (svC (s.err e) (.slice A n cap)) 29) := by
  obtain ⟨pl, D, Z, L, T, lf, sc, tx, fl, bd⟩ := s
  unfold sv svC St.err
  dsimp only
  generalize str tx = st at *
  go_enter Tryd.func51, Tryd.ntmps51
  go_wp2
  exact ret_one rfl rfl rfl (Blk.new2 w _ _ _) Tryd.underlying29 rfl (by kernel_rfl) ⟨rfl, rfl⟩
set_option maxRecDepth 100000 in
set_option maxHeartbeats 8000000 in
theorem rsized_any (s : St) (h : Ok s) (hp : s.place ≤ 1) (c : UInt8) (A : Option Addr) (n cap : Nat) (w : World) :
    Calls Tryd.prog 50 #[sv s (.slice A n cap), .int .u8 (c.toNat : Int)] w fun e w' => e = .returned (sv (sized s c) (.slice A n cap)) ∧ Below w.heap.size w w' := by
  have hl := h.line
  have hdg := h.digits
  have hz := h.size (by omega)
  have hbd := h.bad
  have hd : ∀ w, _ := hex_any c
  obtain ⟨pl, D, Z, L, T, lf, sc, tx, fl, bd⟩ := s
  simp only at hp hl hdg hz hbd ⊢
  subst hbd
  clear h
  have key : (c.toNat = 13 ∧ 0 < D) ∨ (¬ (c.toNat = 13 ∧ 0 < D) ∧ L = 256) ∨ (¬ (c.toNat = 13 ∧ 0 < D) ∧ L < 256) := by omega
  have kp : pl = 0 ∨ pl = 1 := by omega
  rcases key with ⟨k1, k2⟩ | ⟨k1, k2⟩ | ⟨k1, k2⟩
  · have q : ((c.toNat : Int) == 13) = true := beq_cast_true k1
    have hs : Hid (sized ⟨pl, D, Z, L, T, lf, sc, tx, fl, 0⟩ c = ⟨2, D, Z, L, T, lf, sc, tx, fl, 0⟩) := Lib.hid (by unfold sized; rw [if_pos ⟨k1, k2⟩])
    rw [hs.out]
    generalize hexI c = hx at *
    replace hd := Lib.hid hd
    replace k1 := Lib.hid k1
    unfold sv svC
    dsimp only
    generalize str tx = st at *
    go_enter Tryd.func50, Tryd.ntmps50
    go_wp2_with fail
    refine (hd.out _).mono ?_
    rintro e w2 ⟨rfl, rfl⟩
    go_wp2
    exact ret_one rfl rfl rfl (Blk.new2 w _ _ _) Tryd.underlying29 rfl (by kernel_rfl) ⟨rfl, below2 _ _ _⟩
  · subst k2
    have k3 : c.toNat ≠ 13 ∨ (c.toNat = 13 ∧ D = 0) := by omega
    rcases k3 with k3 | ⟨k3, k4⟩
    · have q : ((c.toNat : Int) == 13) = false := beq_cast_false k3
      have hs : Hid (sized ⟨pl, D, Z, 256, T, lf, sc, tx, fl, 0⟩ c = ⟨pl, D, Z, 256, T, lf, sc, tx, fl, 33⟩) := Lib.hid (by unfold sized; rw [if_neg k1]; rfl)
      rw [hs.out]
      generalize hexI c = hx at *
      replace hd := Lib.hid hd
      replace k1 := Lib.hid k1
      replace k3 := Lib.hid k3
      have hb := Lib.hid (fun w => rbad_any ⟨pl, D, Z, 256, T, lf, sc, tx, fl, 0⟩ A n cap 33 w)
      unfold sv svC St.err at hb
      dsimp only at hb
      unfold sv svC
      dsimp only
      generalize str tx = st at *
      go_enter Tryd.func50, Tryd.ntmps50
      go_wp2_with fail
      refine (hd.out _).mono ?_
      rintro e w2 ⟨rfl, rfl⟩
      go_wp2_with fail
      refine (hb.out _).mono ?_
      rintro e w2 ⟨rfl, rfl⟩
      go_wp2
      exact ret_one rfl rfl rfl (Blk.new4 w _ _ _ _ _) Tryd.underlying29 rfl (by kernel_rfl) ⟨rfl, below4 _ _ _ _ _⟩
    · have q : ((c.toNat : Int) == 13) = true := beq_cast_true k3
      subst k4
      have hs : Hid (sized ⟨pl, 0, Z, 256, T, lf, sc, tx, fl, 0⟩ c = ⟨pl, 0, Z, 256, T, lf, sc, tx, fl, 33⟩) := Lib.hid (by unfold sized; rw [if_neg k1]; rfl)
      rw [hs.out]
      generalize hexI c = hx at *
      replace hd := Lib.hid hd
      replace k1 := Lib.hid k1
      replace k3 := Lib.hid k3
      have hb := Lib.hid (fun w => rbad_any ⟨pl, 0, Z, 256, T, lf, sc, tx, fl, 0⟩ A n cap 33 w)
      unfold sv svC St.err at hb
      dsimp only at hb
      unfold sv svC
      dsimp only
      generalize str tx = st at *
      go_enter Tryd.func50, Tryd.ntmps50
      go_wp2_with fail
      refine (hd.out _).mono ?_
      rintro e w2 ⟨rfl, rfl⟩
      go_wp2_with fail
      refine (hb.out _).mono ?_
      rintro e w2 ⟨rfl, rfl⟩
      go_wp2
      exact ret_one rfl rfl rfl (Blk.new4 w _ _ _ _ _) Tryd.underlying29 rfl (by kernel_rfl) ⟨rfl, below4 _ _ _ _ _⟩
  · have kl : L ≠ 256 := by omega
    have q9 : ((L : Int) == 256) = false := beq_cast_false kl
    rcases kp with rfl | rfl
    · have k3 : c.toNat ≠ 13 ∨ (c.toNat = 13 ∧ D = 0) := by omega
      rcases k3 with k3 | ⟨k3, k4⟩
      · have q : ((c.toNat : Int) == 13) = false := beq_cast_false k3
        by_cases k5 : c.toNat = 59
        · have q2 : ((c.toNat : Int) == 59) = true := beq_cast_true k5
          by_cases k6 : 0 < D
          · have q6 : (0 : Int) < D := by omega
            have hs : Hid (sized ⟨0, D, Z, L, T, lf, sc, tx, fl, 0⟩ c = ⟨1, D, Z, L + 1, T, lf, sc, tx, fl, 0⟩) := Lib.hid (by unfold sized; dsimp only; rw [if_neg k1, if_neg kl, if_neg (by decide)]; rw [if_pos ⟨k5, k6⟩])
            rw [hs.out]
            generalize hexI c = hx at *
            replace hd := Lib.hid hd
            replace k1 := Lib.hid k1
            replace k3 := Lib.hid k3
            replace k5 := Lib.hid k5
            replace kl := Lib.hid kl
            unfold sv svC
            dsimp only
            generalize str tx = st at *
            go_enter Tryd.func50, Tryd.ntmps50
            go_wp2_with fail
            refine (hd.out _).mono ?_
            rintro e w2 ⟨rfl, rfl⟩
            go_wp2
            exact ret_one rfl rfl rfl (Blk.new2 w _ _ _) Tryd.underlying29 rfl (by kernel_rfl) ⟨rfl, below2 _ _ _⟩
          · obtain rfl : D = 0 := by omega
            have hx : hexv c = none := by unfold hexv; rw [k5]; rfl
            rw [hexI_none hx] at hd
            have hs : Hid (sized ⟨0, 0, Z, L, T, lf, sc, tx, fl, 0⟩ c = ⟨0, 0, Z, L, T, lf, sc, tx, fl, 33⟩) := Lib.hid (by unfold sized; dsimp only; rw [if_neg k1, if_neg kl, if_neg (by decide)]; rw [if_neg (by omega), hx]; rfl)
            rw [hs.out]
            replace hd := Lib.hid hd
            replace hx := Lib.hid hx
            replace k1 := Lib.hid k1
            replace k3 := Lib.hid k3
            replace k5 := Lib.hid k5
            replace kl := Lib.hid kl
            have hb := Lib.hid (fun w => rbad_any ⟨0, 0, Z, L, T, lf, sc, tx, fl, 0⟩ A n cap 33 w)
            unfold sv svC St.err at hb
            dsimp only at hb
            unfold sv svC
            dsimp only
            generalize str tx = st at *
            go_enter Tryd.func50, Tryd.ntmps50
            go_wp2_with fail
            refine (hd.out _).mono ?_
            rintro e w2 ⟨rfl, rfl⟩
            go_wp2_with fail
            refine (hb.out _).mono ?_
            rintro e w2 ⟨rfl, rfl⟩
            go_wp2
            exact ret_one rfl rfl rfl (Blk.new4 w _ _ _ _ _) Tryd.underlying29 rfl (by kernel_rfl) ⟨rfl, below4 _ _ _ _ _⟩
        · have q2 : ((c.toNat : Int) == 59) = false := beq_cast_false k5
          cases hx : hexv c with
          | none =>
            rw [hexI_none hx] at hd
            have hs : Hid (sized ⟨0, D, Z, L, T, lf, sc, tx, fl, 0⟩ c = ⟨0, D, Z, L, T, lf, sc, tx, fl, 33⟩) := Lib.hid (by unfold sized; dsimp only; rw [if_neg k1, if_neg kl, if_neg (by decide)]; rw [if_neg (by omega), hx]; rfl)
            rw [hs.out]
            replace hd := Lib.hid hd
            replace hx := Lib.hid hx
            replace k1 := Lib.hid k1
            replace k3 := Lib.hid k3
            replace k5 := Lib.hid k5
            replace kl := Lib.hid kl
            have hb := Lib.hid (fun w => rbad_any ⟨0, D, Z, L, T, lf, sc, tx, fl, 0⟩ A n cap 33 w)
            unfold sv svC St.err at hb
            dsimp only at hb
            unfold sv svC
            dsimp only
            generalize str tx = st at *
            go_enter Tryd.func50, Tryd.ntmps50
            go_wp2_with fail
            refine (hd.out _).mono ?_
            rintro e w2 ⟨rfl, rfl⟩
            go_wp2_with fail
            refine (hb.out _).mono ?_
            rintro e w2 ⟨rfl, rfl⟩
            go_wp2
            exact ret_one rfl rfl rfl (Blk.new4 w _ _ _ _ _) Tryd.underlying29 rfl (by kernel_rfl) ⟨rfl, below4 _ _ _ _ _⟩
          | some m =>
            rw [hexI_some hx] at hd
            have hn := hexv_lt hx
            by_cases k7 : D = 8
            · subst k7
              have hs : Hid (sized ⟨0, 8, Z, L, T, lf, sc, tx, fl, 0⟩ c = ⟨0, 8, Z, L, T, lf, sc, tx, fl, 33⟩) := Lib.hid (by unfold sized; dsimp only; rw [if_neg k1, if_neg kl, if_neg (by decide)]; rw [if_neg (by omega), hx]; rfl)
              rw [hs.out]
              replace hd := Lib.hid hd
              replace hx := Lib.hid hx
              replace k1 := Lib.hid k1
              replace k3 := Lib.hid k3
              replace k5 := Lib.hid k5
              replace kl := Lib.hid kl
              have hb := Lib.hid (fun w => rbad_any ⟨0, 8, Z, L, T, lf, sc, tx, fl, 0⟩ A n cap 33 w)
              unfold sv svC St.err at hb
              dsimp only at hb
              unfold sv svC
              dsimp only
              generalize str tx = st at *
              go_enter Tryd.func50, Tryd.ntmps50
              go_wp2_with fail
              refine (hd.out _).mono ?_
              rintro e w2 ⟨rfl, rfl⟩
              go_wp2_with fail
              refine (hb.out _).mono ?_
              rintro e w2 ⟨rfl, rfl⟩
              go_wp2
              exact ret_one rfl rfl rfl (Blk.new4 w _ _ _ _ _) Tryd.underlying29 rfl (by kernel_rfl) ⟨rfl, below4 _ _ _ _ _⟩
            · have q8 : ((D : Int) == 8) = false := beq_cast_false k7
              by_cases k9 : 65536 < T + (16 * Z + m)
              · have k10 : (65536 : Int) < T + (16 * Z + m) := by omega
                have hs : Hid (sized ⟨0, D, Z, L, T, lf, sc, tx, fl, 0⟩ c = ⟨0, D + 1, 16 * Z + m, L, T, lf, sc, tx, fl, 5⟩) := Lib.hid (by unfold sized; dsimp only; rw [if_neg k1, if_neg kl, if_neg (by decide)]; rw [if_neg (by omega), hx]; show (if D = 8 then _ else if 65536 < T + (16 * Z + m) then _ else _) = _; rw [if_neg k7, if_pos k9])
                rw [hs.out]
                replace hd := Lib.hid hd
                replace hx := Lib.hid hx
                replace k1 := Lib.hid k1
                replace k3 := Lib.hid k3
                replace k5 := Lib.hid k5
                replace k7 := Lib.hid k7
                replace k9 := Lib.hid k9
                replace kl := Lib.hid kl
                have hb := Lib.hid (fun w => rbad_any ⟨0, D + 1, 16 * Z + m, L, T, lf, sc, tx, fl, 0⟩ A n cap 5 w)
                unfold sv svC St.err at hb
                dsimp only at hb
                unfold sv svC
                dsimp only
                generalize str tx = st at *
                go_enter Tryd.func50, Tryd.ntmps50
                go_wp2_with fail
                refine (hd.out _).mono ?_
                rintro e w2 ⟨rfl, rfl⟩
                go_wp2_with fail
                refine (hb.out _).mono ?_
                rintro e w2 ⟨rfl, rfl⟩
                go_wp2
                exact ret_one rfl rfl rfl (Blk.new4 w _ _ _ _ _) Tryd.underlying29 rfl (by kernel_rfl) ⟨rfl, below4 _ _ _ _ _⟩
              · have k10 : ¬ (65536 : Int) < T + (16 * Z + m) := by omega
                have hs : Hid (sized ⟨0, D, Z, L, T, lf, sc, tx, fl, 0⟩ c = ⟨0, D + 1, 16 * Z + m, L + 1, T, lf, sc, tx, fl, 0⟩) := Lib.hid (by unfold sized; dsimp only; rw [if_neg k1, if_neg kl, if_neg (by decide)]; rw [if_neg (by omega), hx]; show (if D = 8 then _ else if 65536 < T + (16 * Z + m) then _ else _) = _; rw [if_neg k7, if_neg k9])
                rw [hs.out]
                replace hd := Lib.hid hd
                replace hx := Lib.hid hx
                replace k1 := Lib.hid k1
                replace k3 := Lib.hid k3
                replace k5 := Lib.hid k5
                replace k7 := Lib.hid k7
                replace k9 := Lib.hid k9
                replace kl := Lib.hid kl
                unfold sv svC
                dsimp only
                generalize str tx = st at *
                go_enter Tryd.func50, Tryd.ntmps50
                go_wp2_with fail
                refine (hd.out _).mono ?_
                rintro e w2 ⟨rfl, rfl⟩
                go_wp2
                exact ret_one rfl rfl rfl (Blk.new2 w _ _ _) Tryd.underlying29 rfl (by kernel_rfl) ⟨rfl, below2 _ _ _⟩
      · have q : ((c.toNat : Int) == 13) = true := beq_cast_true k3
        subst k4
        have hx : hexv c = none := by unfold hexv; rw [k3]; rfl
        have q2 : ((c.toNat : Int) == 59) = false := beq_cast_false (show c.toNat ≠ 59 by omega)
        rw [hexI_none hx] at hd
        have hs : Hid (sized ⟨0, 0, Z, L, T, lf, sc, tx, fl, 0⟩ c = ⟨0, 0, Z, L, T, lf, sc, tx, fl, 33⟩) := Lib.hid (by unfold sized; dsimp only; rw [if_neg k1, if_neg kl, if_neg (by decide)]; rw [if_neg (by omega), hx]; rfl)
        rw [hs.out]
        replace hd := Lib.hid hd
        replace hx := Lib.hid hx
        replace k1 := Lib.hid k1
        replace k3 := Lib.hid k3
        replace kl := Lib.hid kl
        have hb := Lib.hid (fun w => rbad_any ⟨0, 0, Z, L, T, lf, sc, tx, fl, 0⟩ A n cap 33 w)
        unfold sv svC St.err at hb
        dsimp only at hb
        unfold sv svC
        dsimp only
        generalize str tx = st at *
        go_enter Tryd.func50, Tryd.ntmps50
        go_wp2_with fail
        refine (hd.out _).mono ?_
        rintro e w2 ⟨rfl, rfl⟩
        go_wp2_with fail
        refine (hb.out _).mono ?_
        rintro e w2 ⟨rfl, rfl⟩
        go_wp2
        exact ret_one rfl rfl rfl (Blk.new4 w _ _ _ _ _) Tryd.underlying29 rfl (by kernel_rfl) ⟨rfl, below4 _ _ _ _ _⟩
    · have k3 : c.toNat ≠ 13 ∨ (c.toNat = 13 ∧ D = 0) := by omega
      rcases k3 with k3 | ⟨k3, k4⟩
      · have q : ((c.toNat : Int) == 13) = false := beq_cast_false k3
        have key : c.toNat < 32 ∧ c.toNat ≠ 9 ∨ c.toNat = 9 ∨ c.toNat = 127 ∨ (32 ≤ c.toNat ∧ c.toNat ≠ 127) := by omega
        rcases key with hc | hc | hc | hc
        · have hx : ctl c = true := by unfold ctl ctlN; simp [hc.1, hc.2]
          have q3 : ((c.toNat : Int) != 9) = true := by rw [bne_iff_ne]; omega
          have q5 : (c.toNat : Int) < 32 := by omega
          have hs : Hid (sized ⟨1, D, Z, L, T, lf, sc, tx, fl, 0⟩ c = ⟨1, D, Z, L, T, lf, sc, tx, fl, 33⟩) := Lib.hid (by unfold sized; dsimp only; rw [if_neg k1, if_neg kl, if_pos rfl, hx]; rfl)
          rw [hs.out]
          generalize hexI c = hy at *
          replace hd := Lib.hid hd
          replace hx := Lib.hid hx
          replace k1 := Lib.hid k1
          replace k3 := Lib.hid k3
          replace kl := Lib.hid kl
          have hb := Lib.hid (fun w => rbad_any ⟨1, D, Z, L, T, lf, sc, tx, fl, 0⟩ A n cap 33 w)
          unfold sv svC St.err at hb
          dsimp only at hb
          unfold sv svC
          dsimp only
          generalize str tx = st at *
          go_enter Tryd.func50, Tryd.ntmps50
          go_wp2_with fail
          refine (hd.out _).mono ?_
          rintro e w2 ⟨rfl, rfl⟩
          go_wp2_with fail
          refine (hb.out _).mono ?_
          rintro e w2 ⟨rfl, rfl⟩
          go_wp2
          exact ret_one rfl rfl rfl (Blk.new4 w _ _ _ _ _) Tryd.underlying29 rfl (by kernel_rfl) ⟨rfl, below4 _ _ _ _ _⟩
        · have hx : ctl c = false := by unfold ctl ctlN; simp [hc]
          have q3 : ((c.toNat : Int) != 9) = false := by rw [hc]; rfl
          have q5 : (c.toNat : Int) < 32 := by omega
          have q4 : ((c.toNat : Int) == 127) = false := beq_cast_false (show c.toNat ≠ 127 by omega)
          have hs : Hid (sized ⟨1, D, Z, L, T, lf, sc, tx, fl, 0⟩ c = ⟨1, D, Z, L + 1, T, lf, sc, tx, fl, 0⟩) := Lib.hid (by unfold sized; dsimp only; rw [if_neg k1, if_neg kl, if_pos rfl, hx]; rfl)
          rw [hs.out]
          generalize hexI c = hy at *
          replace hd := Lib.hid hd
          replace hx := Lib.hid hx
          replace k1 := Lib.hid k1
          replace k3 := Lib.hid k3
          replace kl := Lib.hid kl
          replace hc := Lib.hid hc
          unfold sv svC
          dsimp only
          generalize str tx = st at *
          go_enter Tryd.func50, Tryd.ntmps50
          go_wp2_with fail
          refine (hd.out _).mono ?_
          rintro e w2 ⟨rfl, rfl⟩
          go_wp2
          exact ret_one rfl rfl rfl (Blk.new2 w _ _ _) Tryd.underlying29 rfl (by kernel_rfl) ⟨rfl, below2 _ _ _⟩
        · have hx : ctl c = true := by unfold ctl ctlN; simp [hc]
          have q4 : ((c.toNat : Int) == 127) = true := beq_cast_true hc
          have q5 : ¬ (c.toNat : Int) < 32 := by omega
          have hs : Hid (sized ⟨1, D, Z, L, T, lf, sc, tx, fl, 0⟩ c = ⟨1, D, Z, L, T, lf, sc, tx, fl, 33⟩) := Lib.hid (by unfold sized; dsimp only; rw [if_neg k1, if_neg kl, if_pos rfl, hx]; rfl)
          rw [hs.out]
          generalize hexI c = hy at *
          replace hd := Lib.hid hd
          replace hx := Lib.hid hx
          replace k1 := Lib.hid k1
          replace k3 := Lib.hid k3
          replace kl := Lib.hid kl
          replace hc := Lib.hid hc
          have hb := Lib.hid (fun w => rbad_any ⟨1, D, Z, L, T, lf, sc, tx, fl, 0⟩ A n cap 33 w)
          unfold sv svC St.err at hb
          dsimp only at hb
          unfold sv svC
          dsimp only
          generalize str tx = st at *
          go_enter Tryd.func50, Tryd.ntmps50
          go_wp2_with fail
          refine (hd.out _).mono ?_
          rintro e w2 ⟨rfl, rfl⟩
          go_wp2_with fail
          refine (hb.out _).mono ?_
          rintro e w2 ⟨rfl, rfl⟩
          go_wp2
          exact ret_one rfl rfl rfl (Blk.new4 w _ _ _ _ _) Tryd.underlying29 rfl (by kernel_rfl) ⟨rfl, below4 _ _ _ _ _⟩
        · have hx : ctl c = false := by unfold ctl ctlN; simp; omega
          have q4 : ((c.toNat : Int) == 127) = false := beq_cast_false hc.2
          have q5 : ¬ (c.toNat : Int) < 32 := by omega
          have hs : Hid (sized ⟨1, D, Z, L, T, lf, sc, tx, fl, 0⟩ c = ⟨1, D, Z, L + 1, T, lf, sc, tx, fl, 0⟩) := Lib.hid (by unfold sized; dsimp only; rw [if_neg k1, if_neg kl, if_pos rfl, hx]; rfl)
          rw [hs.out]
          generalize hexI c = hy at *
          replace hd := Lib.hid hd
          replace hx := Lib.hid hx
          replace k1 := Lib.hid k1
          replace k3 := Lib.hid k3
          replace kl := Lib.hid kl
          unfold sv svC
          dsimp only
          generalize str tx = st at *
          go_enter Tryd.func50, Tryd.ntmps50
          go_wp2_with fail
          refine (hd.out _).mono ?_
          rintro e w2 ⟨rfl, rfl⟩
          go_wp2
          exact ret_one rfl rfl rfl (Blk.new2 w _ _ _) Tryd.underlying29 rfl (by kernel_rfl) ⟨rfl, below2 _ _ _⟩
      · have q : ((c.toNat : Int) == 13) = true := beq_cast_true k3
        subst k4
        have hx : ctl c = true := by unfold ctl; rw [k3]; rfl
        have q3 : ((c.toNat : Int) != 9) = true := by rw [bne_iff_ne]; omega
        have q5 : (c.toNat : Int) < 32 := by omega
        have hs : Hid (sized ⟨1, 0, Z, L, T, lf, sc, tx, fl, 0⟩ c = ⟨1, 0, Z, L, T, lf, sc, tx, fl, 33⟩) := Lib.hid (by unfold sized; dsimp only; rw [if_neg k1, if_neg kl, if_pos rfl, hx]; rfl)
        rw [hs.out]
        generalize hexI c = hy at *
        replace hd := Lib.hid hd
        replace hx := Lib.hid hx
        replace k1 := Lib.hid k1
        replace k3 := Lib.hid k3
        replace kl := Lib.hid kl
        have hb := Lib.hid (fun w => rbad_any ⟨1, 0, Z, L, T, lf, sc, tx, fl, 0⟩ A n cap 33 w)
        unfold sv svC St.err at hb
        dsimp only at hb
        unfold sv svC
        dsimp only
        generalize str tx = st at *
        go_enter Tryd.func50, Tryd.ntmps50
        go_wp2_with fail
        refine (hd.out _).mono ?_
        rintro e w2 ⟨rfl, rfl⟩
        go_wp2_with fail
        refine (hb.out _).mono ?_
        rintro e w2 ⟨rfl, rfl⟩
        go_wp2
        exact ret_one rfl rfl rfl (Blk.new4 w _ _ _ _ _) Tryd.underlying29 rfl (by kernel_rfl) ⟨rfl, below4 _ _ _ _ _⟩
end Go.Proofs.YtbegpdhkjfdjbaaDoor
