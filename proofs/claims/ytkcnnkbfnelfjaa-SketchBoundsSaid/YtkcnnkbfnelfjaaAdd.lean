import Derived.Test.YtkcnnkbfnelfjaaAsk
import Derived.Deep.DeepCutAuto
import Derived.Deep.CutBlock
namespace Go.Proofs.Ytkcnnkbfnelfjaa
open Go.RowKit Sk
theorem run_clear_door (w : World) (g W : Nat) (f : Nat → Value) (ty : TypeId) (hW : 16 ≤ W) (h : Blk w g 4 (rowArr W f)) :
    (Builtin.clear_ #[35] ty #[.slice (some ⟨g, 0, none⟩) W W]).run Try.prog w = .ok (.tuple #[]) (w.setRow g (rowArr W fun _ => .bool false)) := by
  obtain ⟨n, rfl⟩ : ∃ n, W = n + 1 := ⟨W - 1, by omega⟩
  have hz : (Builtin.zeroCells (Value.bool false).cells (n + 1)).toList = List.replicate (n + 1) (.bool false) := by
    apply List.ext_getElem
    · simp [Builtin.zeroCells, Value.cells]
    · intro k h1 h2
      simp [Builtin.zeroCells, Value.cells, Nat.mod_one]
  have hs := run_storeCells_from (P := Try.prog) g 4 (List.replicate (n + 1) (.bool false)) 0 _ w h (by simp [rowArr_size]) (by intro v hv; rw [List.mem_replicate] at hv; rw [hv.2]; rfl)
  have hr : (([] : List Value) ++ List.replicate (n + 1) (Value.bool false)).toArray = rowArr (n + 1) fun _ => .bool false := by
    simp [rowArr, List.map_const']
  rw [List.take_zero, hr] at hs
  simp only [Builtin.clear_]
  simp [run_underlying Try.underlying35, hz, hs]

namespace Sk
variable {w : World} {lo hi a : Nat} {B : Nat → Nat} {s : S}
theorem IsSk.clear (h : IsSk w lo hi a B s) : IsSk (w.setRow (B 4) (rowArr s.W fun _ => .bool false)) lo hi a B { s with d := fun _ => false } where
  W0 := h.W0
  W1 := h.W1
  ad := h.ad
  ra := h.ra
  rB := h.rB
  hs := by rw [setRow_size]; exact h.hs
  ne := h.ne
  str := (setRow_other _ _ _ _ (h.rB 4 (by omega)).2.2.symm).trans h.str
  row i' hi' := (setRow_other _ _ _ _ (h.ne _ _ (by omega) (by omega) (by omega))).trans (h.row i' hi')
  door := setRow_heap _ _ _ _ _ _ h.door
  sm := h.sm
theorem Ins.setRow {w' : World} (h : Ins lo hi w w') {g : Nat} (hp : lo ≤ g ∧ g < hi) (cs : Array Value) : Ins lo hi w (w'.setRow g cs) :=
  h.trans ⟨rfl, rfl, rfl, by rw [setRow_size]; exact Nat.le_refl _, fun k _ hr => setRow_other _ _ _ _ (by omega)⟩
/-- Only the counters inside matter. -/
theorem IsSk.congr (h : IsSk w lo hi a B s) (c' : Nat → Nat → Nat) (hc : ∀ i j, i < 4 → j < s.W → c' i j = s.c i j) (hm : ∀ i j, c' i j ≤ 15) : IsSk w lo hi a B { s with c := c' } where
  W0 := h.W0
  W1 := h.W1
  ad := h.ad
  ra := h.ra
  rB := h.rB
  hs := h.hs
  ne := h.ne
  str := h.str
  row i' hi' := by
    refine Eq.trans (h.row i' hi') ?_
    congr 2
    exact rowArr_congr _ fun k hk => by simp only [hc i' k hi' hk]
  door := h.door
  sm := hm
end Sk

theorem rem_cast (a b : Nat) : ((a : Int) + 1) % (8 * (b : Int)) = (((a + 1) % (8 * b) : Nat) : Int) := by simp [Int.natCast_emod]
theorem halveTo_zero (s : S) : halveTo s 0 0 = s := by simp [halveTo]
theorem halveTo_c (s : S) (n k : Nat) : (halveTo s n k).c n k = s.c n k := by simp [halveTo]
theorem halveTo_step (s : S) (n k i j : Nat) : (halveTo s n (k + 1)).c i j = if i = n ∧ j = k then s.c n k / 2 else (halveTo s n k).c i j := by
  simp only [halveTo]
  by_cases e : i = n
  · subst e
    by_cases e2 : j = k
    · subst e2; simp
    · simp only [Nat.lt_irrefl, true_and, false_or, e2, if_false]
      by_cases h : j < k
      · rw [if_pos h, if_pos (by omega)]
      · rw [if_neg h, if_neg (by omega)]
  · simp [e]
theorem aged_eq (s : S) : { halveTo s 4 0 with d := fun _ => false } = aged s := by
  simp only [halveTo, aged, Nat.not_lt_zero, and_false, or_false]
theorem halveTo_next {w : World} {lo hi a : Nat} {B : Nat → Nat} {s : S} {W i : Nat} (e : s.W = W) (h : IsSk w lo hi a B (halveTo s i W)) (hm : ∀ i j, s.c i j ≤ 15) : IsSk w lo hi a B (halveTo s (i + 1) 0) := by
  have := h.congr (halveTo s (i + 1) 0).c (fun i' j _ hj => ?_) (fun i' j => ?_)
  · exact this
  · simp only [halveTo] at hj ⊢
    by_cases e1 : i' < i
    · rw [if_pos (by omega), if_pos (by omega)]
    · by_cases e2 : i' = i
      · rw [if_pos (by omega), if_pos (by omega)]
      · rw [if_neg (by omega), if_neg (by omega)]
  · have := hm i' j
    simp only [halveTo]
    split <;> omega
theorem bumpTo_zero (s : S) (l : List UInt8) (m : Nat) : bumpTo s l m 0 = s := by simp [bumpTo]
theorem bumpTo_c (s : S) (l : List UInt8) (m n : Nat) (j : Nat) : (bumpTo s l m n).c n j = s.c n j := by simp [bumpTo]
theorem bumpTo_yes (s : S) (l : List UInt8) (m n : Nat) (h : s.c n (place n l s.W) = m) (i j : Nat) :
    (bumpTo s l m (n + 1)).c i j = if i = n ∧ j = place n l s.W then m + 1 else (bumpTo s l m n).c i j := by
  simp only [bumpTo]
  by_cases e : i = n
  · subst e
    by_cases e2 : j = place i l s.W
    · subst e2; simp [h]
    · simp [e2]
  · simp only [e, false_and, if_false]
    by_cases e3 : i < n
    · simp [e3, show i < n + 1 by omega]
    · simp [e3, show ¬ i < n + 1 by omega]
theorem bumpTo_no (s : S) (l : List UInt8) (m n : Nat) (h : s.c n (place n l s.W) ≠ m) : bumpTo s l m (n + 1) = bumpTo s l m n := by
  simp only [bumpTo]
  congr 1
  funext i j
  by_cases e : i = n
  · subst e
    by_cases e2 : j = place i l s.W
    · subst e2; simp [h]
    · simp [e2]
  · by_cases e3 : i < n
    · simp [e3, show i < n + 1 by omega]
    · simp [e3, show ¬ i < n + 1 by omega]
theorem raw_bump (s : S) (l : List UInt8) (h : s.d (place 4 l s.W) = true) (hm : least s l < 15) : raw s l = bumpTo s l (least s l) 4 := by simp [raw, Sk.bit, h, hm]
theorem raw_full (s : S) (l : List UInt8) (h : s.d (place 4 l s.W) = true) (hm : ¬ least s l < 15) : raw s l = s := by simp [raw, Sk.bit, h, hm]
theorem raw_mark (s : S) (l : List UInt8) (h : ¬ s.d (place 4 l s.W) = true) : raw s l = Sk.mark s l := by simp [raw, Sk.bit, h]
set_option maxRecDepth 100000 in
set_option maxHeartbeats 1000000 in
theorem add_any {a : Nat} {lo hi : Nat} {B : Nat → Nat} {s : S} (k : ByteArray) (w : World) (h : IsSk w lo hi a B s) (hs : k.size ≤ maxLen) (had : s.added < 999999999):
    Calls Try.prog 16 #[.pointer (some ⟨a, 0, none⟩), .string k] w fun e w' => e = .returned (.tuple #[]) ∧ IsSk w' lo hi a B (add s k.data.toList) ∧ Ins lo hi w w' := by
  have hW0 := h.W0
  have hW1 := h.W1
  have c0 := h.cW
  have c1 := h.cD
  have hp := place_lt 4 k.data.toList s.W (by omega)
  have c2 := h.cB (place 4 k.data.toList s.W) hp
  go_enter Try.func16, Try.ntmps16
  go_upto_if 22 with (first | (go_at_call 24; refine (place_any a s.W 4 _ _ hs (by omega) (by omega) (by omega) (by omega) c0).mono ?_; rintro e w' ⟨rfl, n, rfl⟩))
  go_cut [5] (fun _ wx => IsSk wx lo hi a B (raw s k.data.toList) ∧ Ins lo hi w wx)
  case first =>
    rcases hb : s.d (place 4 k.data.toList s.W) with _ | _
    · have f2 := h.door.frozen (place 4 k.data.toList s.W)
      have R := Lib.hid (raw_mark s k.data.toList (by rw [hb]; simp))
      go_wp2
      go_meet
      exact ⟨by rw [R.out]; exact (h.drewN n).setD _ true _ (fun _ => rfl), ((Ins.refl _ _ _).drewN n).setCell ⟨(h.rB 4 (by omega)).1, (h.rB 4 (by omega)).2.1⟩ _⟩
    · have hl : least s k.data.toList ≤ 15 := least_le s _ 4
      by_cases hm : least s k.data.toList < 15
      · have R := Lib.hid (raw_bump s k.data.toList hb hm)
        clear c1 c2
        go_wp2_with (first | (go_at_call 25; refine (least_any k _ (h.drewN n) hs).mono ?_; rintro e w' ⟨rfl, n2, rfl⟩))
        go_loopw [6, 7, 34] (fun _ _ i wr => ∃ n : Nat, n ≤ 4 ∧ i = .int .i64 n ∧ IsSk wr lo hi a B (bumpTo s k.data.toList (least s k.data.toList) n) ∧ Ins lo hi w wr) (fun _ _ i _ => 4 - (intOf i).toNat)
        case atStart => exact ⟨0, by omega, rfl, by rw [bumpTo_zero]; exact h.drewN _, ((Ins.refl _ _ _).drewN _)⟩
        case round =>
          rename_i v6 v7 v8
          obtain ⟨i, hi4, rfl, h', hin⟩ := hrel
          by_cases hlt : i < 4
          · have d0 := h'.cW
            have d1 := h'.cR i hlt
            have hp := place_lt i k.data.toList s.W (by omega)
            have d2 := h'.cC i (place i k.data.toList s.W) hlt hp
            rw [bumpTo_c] at d2
            have f2 := (h'.row i hlt).frozen (place i k.data.toList s.W)
            have e0 : (bumpTo s k.data.toList (least s k.data.toList) i).W = s.W := rfl
            rw [e0] at d0 d1
            clear e0 c0
            rcases hc : decide (s.c i (place i k.data.toList s.W) = least s k.data.toList) with _ | _
            · have hc1 := of_decide_eq_false hc
              have hs1 := Lib.hid (bumpTo_no s k.data.toList _ i hc1)
              have hc2 : (((s.c i (place i k.data.toList s.W) : Nat) : Int) == ((least s k.data.toList : Nat) : Int)) = false := by rw [beq_eq_false_iff_ne]; omega
              clear hc hc1
              go_wp2_with fail
              go_quiet ((go_at_call 24; refine Calls.quiet_of (place_any a s.W _ _ _ hs (by omega) (by omega) (by omega) (by omega) ?_); (simp [d0])))
              go_wp2
              go_roundw
              case rel => exact ⟨i + 1, by omega, by go_num, by rw [hs1.out]; exact h'.drewN _, hin.drewN _⟩
              case measure => simp [intOf]; omega
            · have hc1 := of_decide_eq_true hc
              have hs1 := Lib.hid (bumpTo_yes s k.data.toList _ i hc1)
              rw [hc1] at d2
              clear hc hc1
              go_wp2_with fail
              go_quiet ((go_at_call 24; refine Calls.quiet_of (place_any a s.W _ _ _ hs (by omega) (by omega) (by omega) (by omega) ?_); (simp [d0])))
              go_wp2
              go_roundw
              case rel => exact ⟨i + 1, by omega, by go_num, (h'.drewN nq).setC i _ (least s k.data.toList + 1) hlt (by omega) _ hs1.out, (hin.drewN _).setCell ⟨(h.rB i (by omega)).1, (h.rB i (by omega)).2.1⟩ _⟩
              case measure => simp [intOf]; omega
          · obtain rfl : i = 4 := by omega
            go_wp2
            go_meet
            exact ⟨by rw [R.out]; exact h', hin⟩
      · have R := Lib.hid (raw_full s k.data.toList hb hm)
        clear c1 c2
        go_wp2_with (first | (go_at_call 25; refine (least_any k _ (h.drewN n) hs).mono ?_; rintro e w' ⟨rfl, n2, rfl⟩))
        go_meet
        exact ⟨by rw [R.out]; exact h.drewN _, (Ins.refl _ _ _).drewN _⟩
  case rest =>
    obtain ⟨h1, hin⟩ := hcut
    have ea : (raw s k.data.toList).added = s.added := by unfold raw; split <;> (try split) <;> rfl
    have eW : (raw s k.data.toList).W = s.W := by unfold raw; split <;> (try split) <;> rfl
    have c0 := h1.cW
    have c1 := h1.cA
    rw [ea] at c1
    rw [eW] at c0
    have f1 := h1.str.frozen 6
    have h2 : IsSk (wc.setCell ⟨a, 6, none⟩ (.int .i64 (s.added + 1 : Nat))) lo hi a B (count (raw s k.data.toList)) := by
      have := h1.setA (s.added + 1) (by omega)
      rw [count, ea]; exact this
    have hin2 := hin.setCell (p := ⟨a, 6, none⟩) h.ra (.int .i64 (s.added + 1 : Nat))
    clear c2 hp
    go_upto_region 14 with fail
    have c0' := h2.cW
    have c1' := h2.cA
    have e0 : (count (raw s k.data.toList)).W = s.W := eW
    have e1 : (count (raw s k.data.toList)).added = s.added + 1 := by show _ + 1 = _; rw [ea]
    rw [e0] at c0'
    rw [e1] at c1'
    simp only [Int.natCast_add, Int.natCast_one] at c0' c1' h2 hin2
    clear c0 c1 f1
    generalize wc.setCell ⟨a, 6, none⟩ (.int .i64 ((s.added : Int) + 1)) = w3 at *
    have E0 := Lib.hid e0
    have E1 := Lib.hid e1
    clear e0 e1 ea eW hin h1
    rcases hag : decide ((s.added + 1) % (8 * s.W) = 0) with _ | _
    · have hag1 := of_decide_eq_false hag
      clear hag
      have R : Hid (add s k.data.toList = count (raw s k.data.toList)) := Lib.hid (if_neg hag1)
      have hq : (((s.added : Int) + 1) % (8 * (s.W : Int)) != 0) = true := by rw [rem_cast, bne_iff_ne]; omega
      go_quiet (fail)
      go_wp2_with fail
      refine bodyPost_ret (results_none rfl _ _ _) rfl ⟨rfl, ?_, ?_⟩
      · rw [R.out]; exact h2.drewN _
      · exact hin2.drewN _
    · have hag1 := of_decide_eq_true hag
      clear hag
      have R : Hid (add s k.data.toList = aged (count (raw s k.data.toList))) := Lib.hid (if_pos hag1)
      have hq : (((s.added : Int) + 1) % (8 * (s.W : Int)) != 0) = false := by rw [rem_cast, bne_eq_false_iff_eq]; omega
      go_quiet (fail)
      generalize count (raw s k.data.toList) = t at *
      have h3 := h2.drewN nq
      have hin3 := hin2.drewN nq
      clear h2 hin2 c0 c1 c0' c1'
      go_wp2_with fail
      go_loopw [8, 77] (fun _ i wr => ∃ n : Nat, n ≤ 4 ∧ i = .int .i64 n ∧ IsSk wr lo hi a B (halveTo t n 0) ∧ Ins lo hi w wr) (fun _ i _ => 4 - (intOf i).toNat)
      case atStart => exact ⟨0, by omega, rfl, by rw [halveTo_zero]; exact h3, hin3⟩
      case round =>
        rename_i v8 v9
        obtain ⟨i, hi4, rfl, h', hin⟩ := hrel
        obtain ⟨wo, hwo⟩ : ∃ wo : World, wo = wr := ⟨_, rfl⟩
        by_cases hlt : i < 4
        · have d1 := h'.cR i hlt
          have e0 : (halveTo t i 0).W = s.W := E0.out
          rw [e0] at d1
          clear e0
          go_wp2_with fail
          clear d1
          go_loopw [9, 87] (fun _ j wr => ∃ m : Nat, m ≤ s.W ∧ j = .int .i64 m ∧ IsSk wr lo hi a B (halveTo t i m) ∧ Ins lo hi w wr) (fun _ j _ => s.W - (intOf j).toNat)
          case atStart => exact ⟨0, by omega, rfl, h', hin⟩
          case round =>
            rename_i v10 v11
            obtain ⟨m, hm, rfl, h'', hin'⟩ := hrel
            by_cases hlt2 : m < s.W
            · have d1 := h''.cR i hlt
              have e0 : (halveTo t i m).W = s.W := E0.out
              have d2 := h''.cC i m hlt (by rw [e0]; exact hlt2)
              rw [e0] at d1
              rw [halveTo_c] at d2
              clear e0
              have f2 := (h''.row i hlt).frozen m
              have sm := h3.sm i m
              go_wp2_with fail
              go_roundw
              case rel =>
                refine ⟨m + 1, by omega, by go_num, ?_, hin'.setCell ⟨(h.rB i (by omega)).1, (h.rB i (by omega)).2.1⟩ _⟩
                exact h''.setC i m (t.c i m / 2) hlt (by omega) _ (halveTo_step t i m)
              case measure => simp [intOf]; omega
            · obtain rfl : m = s.W := by omega
              go_wp2_with fail
              go_roundw
              case rel => exact ⟨i + 1, by omega, by go_num, halveTo_next E0.out h'' h3.sm, hin'⟩
              case measure => simp [intOf]; omega
        · obtain rfl : i = 4 := by omega
          have d1 := h'.cD
          have e0 : (halveTo t 4 0).W = s.W := E0.out
          rw [e0] at d1
          have hd := h'.door
          rw [e0] at hd
          have hcl := run_clear_door wr (B 4) s.W _ 0 hW0 hd
          have h4 : IsSk (wr.setRow (B 4) (rowArr s.W fun _ => .bool false)) lo hi a B (aged t) := by
            rw [← aged_eq, ← e0]
            exact h'.clear
          clear e0 hd
          go_wp2_with fail
          refine bodyPost_end (results_none rfl _ _ _) rfl ⟨rfl, ?_, ?_⟩
          · rw [R.out]; exact h4
          · exact hin.setRow ⟨(h.rB 4 (by omega)).1, (h.rB 4 (by omega)).2.1⟩ _
end Go.Proofs.Ytkcnnkbfnelfjaa
