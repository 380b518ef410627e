/-
  Layer 5: the status.
-/
import Derived.Test.YtemlnmelicnneaaDoorHStr
import Derived.Test.YtemlnmelicnneaaDoorGLow
namespace Go.Proofs.YtemlnmelicnneaaDoor
open Go.RowKit Syn Hd

namespace Hd
def dgt (c : UInt8) : Bool := decide (48 ≤ c.toNat) && decide (c.toNat ≤ 57)
def dval (l : List UInt8) : Nat := l.foldl (fun n c => 10 * n + (c.toNat - 48)) 0
def stD (l : List UInt8) : List UInt8 := l.takeWhile (· != 32)
def stR (l : List UInt8) : List UInt8 := (l.dropWhile (· != 32)).drop 1
/-- Is this a status, and which? -/
def stB (l : List UInt8) : Bool := ((decide ((stD l).length = 3) && (stD l).all dgt) && cln (stR l)) && (decide (100 ≤ dval (stD l)) && decide (dval (stD l) ≤ 599))
def stV (l : List UInt8) : Int := (dval (stD l) : Int)
theorem dval_snoc (l : List UInt8) (c : UInt8) : dval (l ++ [c]) = 10 * dval l + (c.toNat - 48) := by unfold dval; rw [List.foldl_append]; rfl
def StR (l : List UInt8) (w : World) (e : Ending) (w' : World) : Prop := ∃ n : Int, e = .returned (.tuple #[.int .i64 n, .bool (stB l)]) ∧ (stB l = true → n = stV l) ∧ ∃ k, w' = w.drewN k
theorem StR.no {l : List UInt8} {w w' : World} {n : Int} (h : stB l = false) (hw : ∃ k, w' = w.drewN k) : StR l w (.returned (.tuple #[.int .i64 n, .bool false])) w' := ⟨n, by rw [h], by rw [h]; exact fun h => absurd h (by decide), hw⟩
theorem StR.end {l : List UInt8} {w w' : World} {n : Nat} {b : Bool} (h : stB l = b) (hn : dval (stD l) = n) (hw : ∃ k, w' = w.drewN k) : StR l w (.returned (.tuple #[.int .i64 (n : Int), .bool b])) w' := ⟨n, by rw [h], fun _ => by unfold stV; rw [hn], hw⟩
end Hd
set_option maxRecDepth 100000 in
set_option maxHeartbeats 8000000 in
theorem status_any (s : ByteArray) (w : World) (hs : s.size ≤ 1000000) : Calls Tryd.prog 45 #[.string s] w (StR (bs s) w) := by
  have hn := bs_length s
  have hC := Lib.hid (fun w => cut_any s 32 w (by unfold maxLen; omega))
  unfold cutV at hC
  have hB : stB (bs s) = (((decide ((stD (bs s)).length = 3) && (stD (bs s)).all dgt) && cln (stR (bs s))) && (decide (100 ≤ dval (stD (bs s))) && decide (dval (stD (bs s)) ≤ 599))) := rfl
  have l2 : (stR (bs s)).length ≤ 1000000 := by
    have := (List.dropWhile_suffix (p := (· != 32)) (l := bs s)).length_le
    unfold stR; rw [List.length_drop]; omega
  have l1 : (stD (bs s)).length ≤ 1000000 := by
    have := (List.takeWhile_prefix (p := (· != 32)) (l := bs s)).length_le
    unfold stD; omega
  have hmore : ((bs s).dropWhile (· != 32)).isEmpty = true → cln (stR (bs s)) = true := fun h => by
    unfold stR; rw [List.isEmpty_iff.1 h]; rfl
  have hno := fun (w' : World) (n : Int) (h : stB (bs s) = false) (hw : ∃ k, w' = w.drewN k) => StR.no (n := n) h hw
  have hyes := fun (w' : World) (n : Nat) (b : Bool) (h : stB (bs s) = b) (h2 : dval (bs (str (stD (bs s)))) = n) (hw : ∃ k, w' = w.drewN k) => StR.end (n := n) h (by rw [bs_str] at h2; exact h2) hw
  rw [show (bs s).takeWhile (· != 32) = stD (bs s) from rfl, show ((bs s).dropWhile (· != 32)).drop 1 = stR (bs s) from rfl] at hC
  have eD : bs (str (stD (bs s))) = stD (bs s) := bs_str _
  have eR : bs (str (stR (bs s))) = stR (bs s) := bs_str _
  have zD := str_size (stD (bs s))
  have zR := str_size (stR (bs s))
  rw [← eD, ← eR] at hB
  rw [← eR] at hmore
  rw [bs_length] at hB
  generalize stB (bs s) = stb at *
  generalize str (stD (bs s)) = sd at *
  generalize str (stR (bs s)) = sr at *
  generalize ((bs s).dropWhile (· != 32)).isEmpty = em at *
  replace hno := Lib.hid hno
  replace hyes := Lib.hid hyes
  replace hmore := Lib.hid hmore
  have hdl : sd.size ≤ 1000000 := by omega
  have hrl : sr.size ≤ 1000000 := by omega
  clear eD eR zD zR l1 l2
  go_enter Tryd.func45, Tryd.ntmps45
  go_wp2_with fail
  refine (hC.out _).mono ?_
  rintro e w1 ⟨rfl, n1, rfl⟩
  by_cases h3 : sd.size = 3
  · rw [decide_eq_true h3] at hB
    replace hB := Lib.hid hB
    go_wp2
    go_loop [7, 8, 21] (fun n _ i => ∃ k m : Nat, i = .int .i64 (k : Int) ∧ k ≤ 3 ∧ n = .int .i64 (m : Int) ∧ m ≤ 1000 ∧ Hid (m + 1 ≤ 10 ^ k) ∧ Hid (m = dval ((bs sd).take k)) ∧ Hid (((bs sd).take k).all dgt = true)) (fun _ _ i => 3 - (intOf i).toNat)
    case atStart => exact ⟨0, 0, rfl, by omega, rfl, by omega, Lib.hid (by decide), Lib.hid rfl, Lib.hid rfl⟩
    case round =>
      obtain ⟨k, m, rfl, hk, rfl, hm, hmp, hmv, hall⟩ := hrel
      by_cases hlt : k < 3
      · have hks : k < sd.size := by omega
        have hm9 : m ≤ 99 := by
          have h1 := hmp.out
          have h2 : 10 ^ k ≤ 10 ^ 2 := Nat.pow_le_pow_right (by decide) (by omega)
          omega
        have htk := take_at sd k hks
        have key : sd[k].toNat < 48 ∨ 57 < sd[k].toNat ∨ (48 ≤ sd[k].toNat ∧ sd[k].toNat ≤ 57) := by omega
        have no : dgt sd[k] = false → stb = false := fun h => by rw [hB.out, all_fail hks h]; rfl
        rcases key with h | h | ⟨h, h'⟩
        · have e := Lib.hid (hno.out (w.drewN n1) 0 (no (by unfold dgt; simp; omega)) ⟨n1, rfl⟩)
          clear no htk
          go_wp2
          go_ret2
          exact e.out
        · have e := Lib.hid (hno.out (w.drewN n1) 0 (no (by unfold dgt; simp; omega)) ⟨n1, rfl⟩)
          have h2 : 48 ≤ sd[k].toNat := by omega
          clear no htk
          go_wp2
          go_ret2
          exact e.out
        · have e := Lib.hid (all_step (p := dgt) hks hall.out (by unfold dgt; simp; omega))
          obtain ⟨d, hd⟩ : ∃ d, sd[k].toNat = 48 + d := ⟨sd[k].toNat - 48, by omega⟩
          have hd9 : d ≤ 9 := by omega
          have hv2 := Lib.hid (show 10 * m + d = dval ((bs sd).take (k + 1)) by rw [htk, dval_snoc, ← hmv.out, hd]; omega)
          have hp2 := Lib.hid (show 10 * m + d + 1 ≤ 10 ^ (k + 1) by rw [Nat.pow_succ]; have := hmp.out; omega)
          clear no htk
          go_wp2
          go_round
          case rel => exact ⟨k + 1, 10 * m + d, by go_num, by omega, by go_num, by omega, hp2, hv2, e⟩
          case measure => simp only [intOf]; omega
      · obtain rfl : k = 3 := by omega
        have hme := hmv.out
        have hal := hall.out
        rw [← h3] at hme hal
        rw [take_all] at hme hal
        have hB2 := hB.out
        rw [hal, ← hme] at hB2
        replace hB := Lib.hid hB2
        replace hyes := Lib.hid (fun b h => hyes.out (w.drewN n1) m b h hme.symm ⟨n1, rfl⟩)
        clear hmp hmv hall hal hB2
        replace hme := Lib.hid hme
        cases em with
        | true =>
          have hcl := hmore.out rfl
          have hB3 := hB.out
          rw [hcl] at hB3
          clear hB
          by_cases v1 : 100 ≤ m
          · rw [decide_eq_true v1] at hB3
            have hF := Lib.hid (hyes.out (decide ((m : Int) ≤ 599)) (by rw [hB3]; exact decide_eq_decide.2 (by omega)))
            replace hB3 := Lib.hid hB3
            replace hcl := Lib.hid hcl
            go_wp2
            go_ret2
            exact hF.out
          · rw [decide_eq_false v1] at hB3
            have hF := Lib.hid (hyes.out false (by rw [hB3]; rfl))
            replace hB3 := Lib.hid hB3
            replace hcl := Lib.hid hcl
            go_wp2
            go_ret2
            exact hF.out
        | false =>
          go_wp2
          go_loop [9, 46] (fun _ i => ∃ j : Nat, i = .int .i64 (j : Int) ∧ j ≤ sr.size ∧ Hid (((bs sr).take j).all (fun c => !ctl c) = true)) (fun _ i => sr.size - (intOf i).toNat)
          case atStart => exact ⟨0, rfl, by omega, Lib.hid rfl⟩
          case round =>
            obtain ⟨j, rfl, hj, ha⟩ := hrel
            by_cases hjl : j < sr.size
            · have key : sr[j].toNat < 32 ∧ sr[j].toNat ≠ 9 ∨ sr[j].toNat = 9 ∨ sr[j].toNat = 127 ∨ (32 ≤ sr[j].toNat ∧ sr[j].toNat ≠ 127) := by omega
              have no : ctlN sr[j].toNat = false → Hid (((bs sr).take (j + 1)).all (fun c => !ctl c) = true) := fun ht => all_step (p := fun c => !ctl c) hjl ha.out (by show (!ctlN sr[j].toNat) = true; rw [ht]; rfl)
              have yes : ctlN sr[j].toNat = true → Hid (StR (bs s) w (.returned (.tuple #[.int .i64 0, .bool false])) (w.drewN n1)) := fun ht => Lib.hid (hno.out (w.drewN n1) 0 (by rw [hB.out, cln_fail hjl ht]; simp) ⟨n1, rfl⟩)
              rcases key with h | h | h | h
              · have e := yes (by unfold ctlN; simp [h.1, h.2])
                have h0 := h.1
                have h1 : ((sr[j].toNat : Int) != 9) = true := by rw [bne, show ((sr[j].toNat : Int) == 9) = false from beq_cast_false h.2]; rfl
                clear no yes
                replace h := Lib.hid h
                go_wp2
                go_ret2
                exact e.out
              · have e := no (by rw [h]; rfl)
                have h1 : ((sr[j].toNat : Int) != 9) = false := by rw [h]; rfl
                have h2 : ((sr[j].toNat : Int) == 127) = false := beq_cast_false (show sr[j].toNat ≠ 127 by omega)
                have h3' : sr[j].toNat < 32 := by omega
                replace h := Lib.hid h
                clear no yes
                go_wp2
                go_round
                case rel => exact ⟨j + 1, by go_num, by omega, e⟩
                case measure => simp [intOf]; omega
              · have e := yes (by rw [h]; rfl)
                have h2 : ((sr[j].toNat : Int) == 127) = true := beq_cast_true h
                have h3' : ¬ sr[j].toNat < 32 := by omega
                replace h := Lib.hid h
                clear no yes
                go_wp2
                go_ret2
                exact e.out
              · have e := no (by unfold ctlN; simp; omega)
                have h0 := h.1
                have h2 : ((sr[j].toNat : Int) == 127) = false := beq_cast_false h.2
                replace h := Lib.hid h
                clear no yes
                go_wp2
                go_round
                case rel => exact ⟨j + 1, by go_num, by omega, e⟩
                case measure => simp [intOf]; omega
            · obtain rfl : j = sr.size := by omega
              have hcl : cln (bs sr) = true := all_done ha.out
              have hB3 := hB.out
              rw [hcl] at hB3
              clear hB
              by_cases v1 : 100 ≤ m
              · rw [decide_eq_true v1] at hB3
                have hF := Lib.hid (hyes.out (decide ((m : Int) ≤ 599)) (by rw [hB3]; exact decide_eq_decide.2 (by omega)))
                replace hB3 := Lib.hid hB3
                replace hcl := Lib.hid hcl
                go_wp2
                go_ret2
                exact hF.out
              · rw [decide_eq_false v1] at hB3
                have hF := Lib.hid (hyes.out false (by rw [hB3]; rfl))
                replace hB3 := Lib.hid hB3
                replace hcl := Lib.hid hcl
                go_wp2
                go_ret2
                exact hF.out
  · rw [decide_eq_false h3] at hB
    have e := Lib.hid (hno.out (w.drewN n1) 0 (by rw [hB]; rfl) ⟨n1, rfl⟩)
    have q1 : ((sd.size : Int) != 3) = true := by rw [bne, show ((sd.size : Int) == 3) = false from beq_cast_false h3]; rfl
    replace h3 := Lib.hid h3
    replace hB := Lib.hid hB
    go_wp2
    go_ret2
    exact e.out
end Go.Proofs.YtemlnmelicnneaaDoor
