/-
  Layer 5: ReadResponse.
-/
import Derived.Test.YtemlnmelicnneaaDoorHLines
import Derived.Test.YtemlnmelicnneaaDoorHHeaders
import Derived.Test.YtemlnmelicnneaaDoorHStat
namespace Go.Proofs.YtemlnmelicnneaaDoor
open Go.RowKit Syn Fr Hd Ck

theorem results_cell_tmp2 {fn : Func} {p u u2 : Tmp} {ty : TypeId} (h : fn.results = #[.cell p ty, .tmp u, .tmp u2]) (tmps : Array Value) (P : Program) (w : World) :
    (results fn tmps).run P w =
      ((asAddr (tmps.getD p undef)).run P w).andThen fun a w₁ => ((loadVar ty a).run P w₁).andThen fun v w₂ => .ok (.tuple #[v, tmps.getD u undef, tmps.getD u2 undef]) w₂ := by
  simp only [results, h]
  simp [Sem.run_bind, Result.andThen]
/-- A struct that lies in its own block and two more results. -/
theorem ret_blk3 {P : Program} {fn : Func} {p u u2 : Tmp} {ty t : TypeId} {R : Ending → World → Prop} {a : Act} {w : World} {g : Nat} {cs : Array Value} {d : TypeDesc} (h : fn.results = #[.cell p ty, .tmp u, .tmp u2])
    (hd0 : a.defers = []) (hp : a.tmps.getD p undef = .pointer (some ⟨g, 0, none⟩)) (hb : Blk w g t cs) (hu : P.underlying ty = some d) (hd : (match d with | .struct _ | .array _ _ => true | _ => false) = true)
    (hi : (P.info? ty).map (·.size) = some cs.size) (hR : R (.returned (.tuple #[.agg cs, a.tmps.getD u undef, a.tmps.getD u2 undef])) w) : bodyPost P fn R .ret a w := by
  refine bodyPost_ret ?_ hd0 hR
  rw [results_cell_tmp2 h, hp]
  simp [asAddr, Result.andThen, run_loadVar_row w g t ty cs (0, 0) d hb hu hd hi]
namespace Hd
theorem splitK_most (sep : List UInt8) : ∀ (k : Nat) (s : List UInt8), ∀ x ∈ Lib.splitK sep 0 k s, x.length ≤ s.length
  | 0, s, x, h => by rw [Lib.splitK, List.mem_singleton] at h; rw [h]; exact Nat.le_refl _
  | k + 1, s, x, h => by
    rw [Lib.splitK] at h
    split at h
    · rw [List.mem_singleton] at h; rw [h]; exact Nat.le_refl _
    · rcases List.mem_cons.1 h with rfl | h
      · rw [List.length_take]; omega
      · have := splitK_most sep k _ x h; rw [List.length_drop] at this; omega
theorem lnL_most (b : List UInt8) : ∀ x ∈ lnL b, x.length ≤ b.length := fun x hx => by
  have := splitK_most [13, 10] _ _ x hx
  rw [List.length_take] at this; omega
theorem spl_ne (l : List UInt8) : ∃ x r, spl l = x :: r := by
  unfold spl
  cases Lib.count l [13, 10] with
  | zero => exact ⟨l, [], rfl⟩
  | succ k =>
    rw [Lib.splitK]
    split
    · exact ⟨l, [], rfl⟩
    · exact ⟨_, _, rfl⟩
theorem lnE_few {b : List UInt8} (h : lnE b = 0) : (lnL b).length ≤ 65 := by
  unfold lnE at h
  split at h
  · cases h
  · split at h
    · cases h
    · split at h
      · cases h
      · split at h
        · cases h
        · omega
def verB : List UInt8 := [72, 84, 84, 80, 47, 49, 46, 49]
/-- The error of the lines of a response. -/
def rrX (L : List (List UInt8)) : Int := if stD (L.headD []) = verB then (if stB (stR (L.headD [])) = false then 2 else hdsE L.tail) else 28
theorem rrX_cons (l : List UInt8) (r : List (List UInt8)) : rrX (l :: r) = if stD l = verB then (if stB (stR l) = false then 2 else hdsE r) else 28 := rfl
/-- The error of a response that is read. -/
def rrE (b : List UInt8) : Int := if lnE b = 0 then rrX (lnL b) else lnE b
def rrS (b : List UInt8) : Int := stV (stR ((lnL b).headD []))
def rrL (b : List UInt8) : List (List UInt8 × List UInt8) := (lnL b).tail.map hdV
def RrR (w : World) (b : List UInt8) (e : Ending) (w' : World) : Prop :=
  ((rrE b ≠ 0 ∧ e = .returned (.tuple #[.agg #[.int .i64 0, .slice none 0 0], .int .i64 0, .iface 59 (.int .i64 (rrE b))])) ∨ (rrE b = 0 ∧ ∃ o, e = .returned (.tuple #[.agg #[.int .i64 (rrS b), o], .int .i64 (endF b), .nilIface]) ∧ Rd w' 2 o (rrL b).length (prs (rrL b)))) ∧ Below w.heap.size w w'
theorem RrR.bad {w : World} {b : List UInt8} {n : Int} (h : rrE b = n) (h0 : n ≠ 0) (w' : World) (hb : Below w.heap.size w w') : RrR w b (.returned (.tuple #[.agg #[.int .i64 0, .slice none 0 0], .int .i64 0, .iface 59 (.int .i64 n)])) w' :=
  ⟨.inl ⟨by rw [h]; exact h0, by rw [h]⟩, hb⟩
theorem RrR.good {w w' : World} {b : List UInt8} {o : Value} (h : rrE b = 0) (ho : Rd w' 2 o (rrL b).length (prs (rrL b))) (hb : Below w.heap.size w w') : RrR w b (.returned (.tuple #[.agg #[.int .i64 (rrS b), o], .int .i64 (endF b), .nilIface])) w' :=
  ⟨.inr ⟨h, o, rfl, ho⟩, hb⟩
theorem rd_tail {w : World} {b1 o1 c : Nat} {x : List UInt8} {r : List (List UInt8)} (h : Rd w 1 (.slice (some ⟨b1, o1, none⟩) (x :: r).length c) (x :: r).length (strs (x :: r))) : Rd w 1 (.slice (some ⟨b1, o1 + 1, none⟩) r.length (c - 1)) r.length (strs r) := by
  obtain ⟨A', c', e, hc, hl, hr⟩ := h
  cases e
  rw [List.length_cons] at hc hr
  refine ⟨_, _, rfl, by omega, by unfold strs; rw [List.length_map, Nat.mul_one], fun hn => ?_⟩
  obtain ⟨b, o, e, hlt, hx⟩ := hr (by omega)
  cases e
  refine ⟨b1, o1 + 1, rfl, hlt, fun j u hu => ?_⟩
  have := hx (j + 1) u (by simpa [strs] using hu)
  rw [show o1 + 1 + j = o1 + (j + 1) by omega]
  exact this
theorem rd_none (w : World) (a : Addr) : Rd w 1 (.slice (some a) 0 1) 0 [] := ⟨some a, 1, rfl, by omega, rfl, fun h => absurd h (by decide)⟩
theorem rd_none0 (w : World) (a : Addr) : Rd w 1 (.slice (some a) 0 0) 0 [] := ⟨some a, 0, rfl, by omega, rfl, fun h => absurd h (by decide)⟩
end Hd
set_option maxRecDepth 100000 in
set_option maxHeartbeats 16000000 in
theorem rdresp_any (b : List UInt8) (A : Option Addr) (cap : Nat) (w : World) (hR : Rd w 1 (.slice A b.length cap) b.length (u8s b)) (hb : b.length ≤ 1000000) (hc0 : A = none → cap = 0) (hM : MaxL w) :
    Calls Tryd.prog 20 #[.slice A b.length cap] w (RrR w b) := by
  have hLn := Lib.hid (fun w' (hw : Below w.heap.size w w') => lines_any b A cap w' (hR.below hw) hb hc0 (hM.below hw))
  unfold LnR at hLn
  have hK0 := Lib.hid (Blk.new w 35 #[.int .i64 0, .slice none 0 0])
  have hB0 := Lib.hid ((Below.refl w.heap.size w).alloc (Nat.le_refl _) (.cells #[.int .i64 0, .slice none 0 0] 35))
  have hE : rrE b = if lnE b = 0 then rrX (lnL b) else lnE b := rfl
  replace hc0 := Lib.hid hc0
  replace hM := Lib.hid hM
  replace hR := Lib.hid hR
  by_cases k1 : lnE b = 0
  · rw [if_pos k1] at hE
    have hfew := lnE_few k1
    have hmost := lnL_most b
    have hS : rrS b = stV (stR ((lnL b).headD [])) := rfl
    have hLL : rrL b = (lnL b).tail.map hdV := rfl
    obtain ⟨l0, Lr, hL⟩ := spl_ne (b.take ((endF b).toNat - 4))
    replace hL : lnL b = l0 :: Lr := hL
    rw [hL] at hE hfew hmost hS hLL
    rw [rrX_cons] at hE
    simp only [List.headD_cons, List.tail_cons] at hS hLL
    rw [List.length_cons] at hfew
    have hl0 := hmost l0 (by simp)
    have hC := Lib.hid (fun w => cut_any (str l0) 32 w (by rw [str_size]; unfold maxLen; omega))
    unfold cutV at hC
    rw [bs_str, show l0.takeWhile (· != 32) = stD l0 from rfl, show (l0.dropWhile (· != 32)).drop 1 = stR l0 from rfl] at hC
    have lr : (stR l0).length ≤ l0.length := by
      have := (List.dropWhile_suffix (p := (· != 32)) (l := l0)).length_le
      unfold stR; rw [List.length_drop]; omega
    have hSt := fun w => status_any (str (stR l0)) w (by rw [str_size]; omega)
    unfold StR at hSt
    simp only [bs_str] at hSt
    replace hSt := Lib.hid hSt
    have hHd := Lib.hid (fun v w h => headers_any Lr v w h (fun l hl => by have := hmost l (by simp [hl]); omega) (by omega))
    unfold HdsR at hHd
    have hv : ((str (stD l0)).toList == [72, 84, 84, 80, 47, 49, 46, 49]) = decide (stD l0 = verB) := by rw [lit_beq, bs_str]; rfl
    replace k1 := Lib.hid k1
    replace hL := Lib.hid hL
    replace hmost := Lib.hid hmost
    by_cases k2 : stD l0 = verB
    · rw [decide_eq_true k2] at hv
      rw [if_pos k2] at hE
      replace k2 := Lib.hid k2
      cases k3 : stB (stR l0) with
      | false =>
        rw [if_pos k3] at hE
        have hR := Lib.hid (RrR.bad (w := w) hE (by decide))
        rw [k3] at hSt
        replace hE := Lib.hid hE
        replace k3 := Lib.hid k3
        generalize str (stD l0) = sd at *
        generalize str (stR l0) = sr at *
        go_enter Tryd.func20, Tryd.ntmps20
        go_wp2_with fail
        refine (hLn.out _ hB0.out).mono ?_
        rintro e w1 ⟨h1, hb1⟩
        obtain ⟨o1, rfl, hr1⟩ : ∃ o, e = .returned (.tuple #[o, .int .i64 (endF b), .nilIface]) ∧ Rd w1 1 o (l0 :: Lr).length (strs (l0 :: Lr)) := by
          rcases h1 with ⟨h1, -⟩ | ⟨-, o, h1, h2⟩
          · exact absurd k1.out h1
          · rw [hL.out] at h2; exact ⟨o, h1, h2⟩
        have hK1 := Lib.hid (hK0.out.below hb1)
        have hB1 := Lib.hid (Below.next hB0.out hB0.out.size hb1)
        clear hb1 h1
        obtain ⟨A1, c1, rfl, hc1, -, r1⟩ := id hr1
        obtain ⟨b1, off1, rfl, hl1, x1⟩ := r1 (by simp)
        have d1 : w1.cell? ⟨b1, off1 + 0, none⟩ = some (.string (str l0)) := x1 0 _ rfl
        rw [Nat.add_zero] at d1
        clear x1 r1
        replace hr1 := Lib.hid hr1
        go_wp2_with fail
        refine (hC.out _).mono ?_
        rintro e w2 ⟨rfl, n2, rfl⟩
        have hK2 := Lib.hid (hK1.out.drewN n2)
        have hB2 := Lib.hid (below_drewN hB1.out n2)
        clear d1
        go_wp2_with fail
        refine (hSt.out _).mono ?_
        rintro e w3 ⟨sn, rfl, hsn, n3, rfl⟩
        have hK3 := Lib.hid (hK1.out.drewN (n2 + n3))
        have hB3 := Lib.hid (below_drewN hB1.out (n2 + n3))
        have f0 := hK3.out.cell 0
        have f1 := hK3.out.cell 1
        have g0 := hK3.out.frozen 0
        have g1 := hK3.out.frozen 1
        go_wp2
        exact ret_blk3 rfl rfl rfl (hK3.out.two (.int .i64 0) (.slice none 0 0)) Tryd.underlying35 rfl (by kernel_rfl) (hR.out _ ((hB3.out.setCell (p := ⟨w.heap.size, 0, none⟩) (Nat.le_refl _) _).setCell (p := ⟨w.heap.size, 1, none⟩) (Nat.le_refl _) _))

      | true =>
        rw [if_neg (by rw [k3]; decide)] at hE
        rw [k3] at hSt
        replace k3 := Lib.hid k3
        generalize str (stD l0) = sd at *
        generalize str (stR l0) = sr at *
        by_cases k4 : hdsE Lr = 0
        · rw [k4] at hE
          replace hE := Lib.hid hE
          replace k4 := Lib.hid k4
          replace hS := Lib.hid hS
          replace hLL := Lib.hid hLL
          go_enter Tryd.func20, Tryd.ntmps20
          go_wp2_with fail
          refine (hLn.out _ hB0.out).mono ?_
          rintro e w1 ⟨h1, hb1⟩
          obtain ⟨o1, rfl, hr1⟩ : ∃ o, e = .returned (.tuple #[o, .int .i64 (endF b), .nilIface]) ∧ Rd w1 1 o (l0 :: Lr).length (strs (l0 :: Lr)) := by
            rcases h1 with ⟨h1, -⟩ | ⟨-, o, h1, h2⟩
            · exact absurd k1.out h1
            · rw [hL.out] at h2; exact ⟨o, h1, h2⟩
          have hK1 := Lib.hid (hK0.out.below hb1)
          have hB1 := Lib.hid (Below.next hB0.out hB0.out.size hb1)
          clear hb1 h1
          obtain ⟨A1, c1, rfl, hc1, -, r1⟩ := id hr1
          obtain ⟨b1, off1, rfl, hl1, x1⟩ := r1 (by simp)
          have d1 : w1.cell? ⟨b1, off1 + 0, none⟩ = some (.string (str l0)) := x1 0 _ rfl
          rw [Nat.add_zero] at d1
          clear x1 r1
          replace hr1 := Lib.hid hr1
          go_wp2_with fail
          refine (hC.out _).mono ?_
          rintro e w2 ⟨rfl, n2, rfl⟩
          have hK2 := Lib.hid (hK1.out.drewN n2)
          have hB2 := Lib.hid (below_drewN hB1.out n2)
          clear d1
          go_wp2_with fail
          refine (hSt.out _).mono ?_
          rintro e w3 ⟨sn, rfl, hsn, n3, rfl⟩
          have hK3 := Lib.hid (hK1.out.drewN (n2 + n3))
          have hB3 := Lib.hid (below_drewN hB1.out (n2 + n3))

          rw [List.length_cons] at hc1
          by_cases hcp : c1 = 1
          · subst hcp
            obtain rfl : Lr = [] := by cases Lr with | nil => rfl | cons a r => simp at hc1
            have hr4 := Lib.hid (rd_none0 (w1.drewN (n2 + n3)) ⟨b1, off1, none⟩)
            go_wp2_with fail
            refine (hHd.out _ _ hr4.out).mono ?_
            rintro e w4 ⟨h4, hb4⟩
            obtain ⟨o4, rfl, ho4⟩ : ∃ o, e = .returned (.tuple #[o, .nilIface]) ∧ Own w4 (w1.drewN (n2 + n3)).heap.size 86 2 o 0 (prs ([].map hdV)) := by
              rcases h4 with ⟨h4, -⟩ | ⟨-, o, h4, h5⟩
              · exact absurd k4.out h4
              · rw [List.length_map] at h5; exact ⟨o, h4, h5⟩
            have hb4' : Below w1.heap.size w1 w4 := ⟨hb4.os, hb4.tape, hb4.output, hb4.size, hb4.block⟩
            have hK4 := hK1.out.below hb4'
            have hB4 := Lib.hid (Below.next hB1.out hB1.out.size hb4')
            obtain ⟨A5, c5, rfl, -, -, -⟩ := Rd.own ho4
            have hlt5 : w.heap.size < (w1.drewN (n2 + n3)).heap.size := hK1.out.lt
            have ho5 := own_far (own_far ho4 (p := ⟨w.heap.size, 0, none⟩) hlt5 (.int .i64 (stV (stR l0)))) (p := ⟨w.heap.size, 1, none⟩) hlt5 (.slice A5 0 c5)
            have hw := RrR.good hE.out (o := .slice A5 0 c5) (by rw [hLL.out, List.length_map]; exact Rd.own ho5) ((hB4.out.setCell (p := ⟨w.heap.size, 0, none⟩) (Nat.le_refl _) (.int .i64 (stV (stR l0)))).setCell (p := ⟨w.heap.size, 1, none⟩) (Nat.le_refl _) (.slice A5 0 c5))
            rw [hS.out] at hw
            replace hw := Lib.hid hw
            clear hb4 hb4' h4 ho4 ho5 hlt5
            have f0 := hK4.cell 0
            have f1 := hK4.cell 1
            have g0 := hK4.frozen 0
            have g1 := hK4.frozen 1
            replace hK4 := Lib.hid hK4
            go_wp2
            exact ret_blk3 rfl rfl rfl (hK4.out.two (.int .i64 (stV (stR l0))) (.slice A5 0 c5)) Tryd.underlying35 rfl (by kernel_rfl) hw.out

          · have hr3 := rd_tail hr1.out
            have hc2 : Lr.length + 1 ≤ c1 := hc1
            obtain ⟨c, rfl⟩ : ∃ c, c1 = c + 2 := ⟨c1 - 2, by omega⟩
            have hr4 := Lib.hid (hr3.drewN (n2 + n3))
            go_wp2_with fail
            refine (hHd.out _ _ hr4.out).mono ?_
            rintro e w4 ⟨h4, hb4⟩
            obtain ⟨o4, rfl, ho4⟩ : ∃ o, e = .returned (.tuple #[o, .nilIface]) ∧ Own w4 (w1.drewN (n2 + n3)).heap.size 86 2 o Lr.length (prs (Lr.map hdV)) := by
              rcases h4 with ⟨h4, -⟩ | ⟨-, o, h4, h5⟩
              · exact absurd k4.out h4
              · rw [List.length_map] at h5; exact ⟨o, h4, h5⟩
            have hb4' : Below w1.heap.size w1 w4 := ⟨hb4.os, hb4.tape, hb4.output, hb4.size, hb4.block⟩
            have hK4 := hK1.out.below hb4'
            have hB4 := Lib.hid (Below.next hB1.out hB1.out.size hb4')
            obtain ⟨A5, c5, rfl, -, -, -⟩ := Rd.own ho4
            have hlt5 : w.heap.size < (w1.drewN (n2 + n3)).heap.size := hK1.out.lt
            have ho5 := own_far (own_far ho4 (p := ⟨w.heap.size, 0, none⟩) hlt5 (.int .i64 (stV (stR l0)))) (p := ⟨w.heap.size, 1, none⟩) hlt5 (.slice A5 Lr.length c5)
            have hw := RrR.good hE.out (o := .slice A5 Lr.length c5) (by rw [hLL.out, List.length_map]; exact Rd.own ho5) ((hB4.out.setCell (p := ⟨w.heap.size, 0, none⟩) (Nat.le_refl _) (.int .i64 (stV (stR l0)))).setCell (p := ⟨w.heap.size, 1, none⟩) (Nat.le_refl _) (.slice A5 Lr.length c5))
            rw [hS.out] at hw
            replace hw := Lib.hid hw
            clear hb4 hb4' h4 ho4 ho5 hlt5
            have f0 := hK4.cell 0
            have f1 := hK4.cell 1
            have g0 := hK4.frozen 0
            have g1 := hK4.frozen 1
            replace hK4 := Lib.hid hK4
            go_wp2
            exact ret_blk3 rfl rfl rfl (hK4.out.two (.int .i64 (stV (stR l0))) (.slice A5 Lr.length c5)) Tryd.underlying35 rfl (by kernel_rfl) hw.out

        · have hR := Lib.hid (RrR.bad (w := w) hE k4)
          replace hE := Lib.hid hE
          replace k4 := Lib.hid k4
          go_enter Tryd.func20, Tryd.ntmps20
          go_wp2_with fail
          refine (hLn.out _ hB0.out).mono ?_
          rintro e w1 ⟨h1, hb1⟩
          obtain ⟨o1, rfl, hr1⟩ : ∃ o, e = .returned (.tuple #[o, .int .i64 (endF b), .nilIface]) ∧ Rd w1 1 o (l0 :: Lr).length (strs (l0 :: Lr)) := by
            rcases h1 with ⟨h1, -⟩ | ⟨-, o, h1, h2⟩
            · exact absurd k1.out h1
            · rw [hL.out] at h2; exact ⟨o, h1, h2⟩
          have hK1 := Lib.hid (hK0.out.below hb1)
          have hB1 := Lib.hid (Below.next hB0.out hB0.out.size hb1)
          clear hb1 h1
          obtain ⟨A1, c1, rfl, hc1, -, r1⟩ := id hr1
          obtain ⟨b1, off1, rfl, hl1, x1⟩ := r1 (by simp)
          have d1 : w1.cell? ⟨b1, off1 + 0, none⟩ = some (.string (str l0)) := x1 0 _ rfl
          rw [Nat.add_zero] at d1
          clear x1 r1
          replace hr1 := Lib.hid hr1
          go_wp2_with fail
          refine (hC.out _).mono ?_
          rintro e w2 ⟨rfl, n2, rfl⟩
          have hK2 := Lib.hid (hK1.out.drewN n2)
          have hB2 := Lib.hid (below_drewN hB1.out n2)
          clear d1
          go_wp2_with fail
          refine (hSt.out _).mono ?_
          rintro e w3 ⟨sn, rfl, hsn, n3, rfl⟩
          have hK3 := Lib.hid (hK1.out.drewN (n2 + n3))
          have hB3 := Lib.hid (below_drewN hB1.out (n2 + n3))

          rw [List.length_cons] at hc1
          by_cases hcp : c1 = 1
          · subst hcp
            obtain rfl : Lr = [] := by cases Lr with | nil => rfl | cons a r => simp at hc1
            exact absurd rfl k4.out
          · have hr3 := rd_tail hr1.out
            have hc2 : Lr.length + 1 ≤ c1 := hc1
            obtain ⟨c, rfl⟩ : ∃ c, c1 = c + 2 := ⟨c1 - 2, by omega⟩
            have hr4 := Lib.hid (hr3.drewN (n2 + n3))
            go_wp2_with fail
            refine (hHd.out _ _ hr4.out).mono ?_
            rintro e w4 ⟨h4, hb4⟩
            obtain rfl : e = .returned (.tuple #[.slice none 0 0, .iface 59 (.int .i64 (hdsE Lr))]) := by
              rcases h4 with ⟨-, h4⟩ | ⟨h4, -⟩
              · exact h4
              · exact absurd h4 k4.out
            have hb4' : Below w1.heap.size w1 w4 := ⟨hb4.os, hb4.tape, hb4.output, hb4.size, hb4.block⟩
            have hK4 := Lib.hid (hK1.out.below hb4')
            have hB4 := Lib.hid (Below.next hB1.out hB1.out.size hb4')
            clear hb4 hb4' h4
            generalize hdsE Lr = he at *
            have f0 := hK4.out.cell 0
            have f1 := hK4.out.cell 1
            have g0 := hK4.out.frozen 0
            have g1 := hK4.out.frozen 1
            go_wp2
            exact ret_blk3 rfl rfl rfl (hK4.out.two (.int .i64 0) (.slice none 0 0)) Tryd.underlying35 rfl (by kernel_rfl) (hR.out _ ((hB4.out.setCell (p := ⟨w.heap.size, 0, none⟩) (Nat.le_refl _) _).setCell (p := ⟨w.heap.size, 1, none⟩) (Nat.le_refl _) _))

    · rw [decide_eq_false k2] at hv
      rw [if_neg k2] at hE
      have hR := Lib.hid (RrR.bad (w := w) hE (by decide))
      replace hE := Lib.hid hE
      replace k2 := Lib.hid k2
      generalize str (stD l0) = sd at *
      generalize str (stR l0) = sr at *
      go_enter Tryd.func20, Tryd.ntmps20
      go_wp2_with fail
      refine (hLn.out _ hB0.out).mono ?_
      rintro e w1 ⟨h1, hb1⟩
      obtain ⟨o1, rfl, hr1⟩ : ∃ o, e = .returned (.tuple #[o, .int .i64 (endF b), .nilIface]) ∧ Rd w1 1 o (l0 :: Lr).length (strs (l0 :: Lr)) := by
        rcases h1 with ⟨h1, -⟩ | ⟨-, o, h1, h2⟩
        · exact absurd k1.out h1
        · rw [hL.out] at h2; exact ⟨o, h1, h2⟩
      have hK1 := Lib.hid (hK0.out.below hb1)
      have hB1 := Lib.hid (Below.next hB0.out hB0.out.size hb1)
      clear hb1 h1
      obtain ⟨A1, c1, rfl, hc1, -, r1⟩ := id hr1
      obtain ⟨b1, off1, rfl, hl1, x1⟩ := r1 (by simp)
      have d1 : w1.cell? ⟨b1, off1 + 0, none⟩ = some (.string (str l0)) := x1 0 _ rfl
      rw [Nat.add_zero] at d1
      clear x1 r1
      replace hr1 := Lib.hid hr1
      go_wp2_with fail
      refine (hC.out _).mono ?_
      rintro e w2 ⟨rfl, n2, rfl⟩
      have hK2 := Lib.hid (hK1.out.drewN n2)
      have hB2 := Lib.hid (below_drewN hB1.out n2)
      clear d1
      have f0 := hK2.out.cell 0
      have f1 := hK2.out.cell 1
      have g0 := hK2.out.frozen 0
      have g1 := hK2.out.frozen 1
      go_wp2
      exact ret_blk3 rfl rfl rfl (hK2.out.two (.int .i64 0) (.slice none 0 0)) Tryd.underlying35 rfl (by kernel_rfl) (hR.out _ ((hB2.out.setCell (p := ⟨w.heap.size, 0, none⟩) (Nat.le_refl _) _).setCell (p := ⟨w.heap.size, 1, none⟩) (Nat.le_refl _) _))

  · rw [if_neg k1] at hE
    have hR := Lib.hid (RrR.bad (w := w) hE k1)
    replace hE := Lib.hid hE
    replace k1 := Lib.hid k1
    go_enter Tryd.func20, Tryd.ntmps20
    go_wp2_with fail
    refine (hLn.out _ hB0.out).mono ?_
    rintro e w1 ⟨h1, hb1⟩
    obtain rfl : e = .returned (.tuple #[.slice none 0 0, .int .i64 0, .iface 59 (.int .i64 (lnE b))]) := by
      rcases h1 with ⟨-, h1⟩ | ⟨h1, -⟩
      · exact h1
      · exact absurd h1 k1.out
    have hK1 := hK0.out.below hb1
    have hB1 := Lib.hid (Below.next hB0.out hB0.out.size hb1)
    clear hb1 h1
    generalize lnE b = le at *
    have f0 := hK1.cell 0
    have f1 := hK1.cell 1
    have g0 := hK1.frozen 0
    have g1 := hK1.frozen 1
    go_wp2
    exact ret_blk3 rfl rfl rfl (hK1.two (.int .i64 0) (.slice none 0 0)) Tryd.underlying35 rfl (by kernel_rfl) (hR.out _ ((hB1.out.setCell (p := ⟨w.heap.size, 0, none⟩) (Nat.le_refl _) _).setCell (p := ⟨w.heap.size, 1, none⟩) (Nat.le_refl _) _))

end Go.Proofs.YtemlnmelicnneaaDoor
