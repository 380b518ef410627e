/-
  Several texts in one: Tok, Basic, Low, Num, Push, Quote, RQuote, Unq, RUnq, Trim, Parts, PWalk, RParts, List, RList.
-/
import Derived.Test.YtpfpjcfacbfjaaaGreatDoorSpec
import Derived.Test.YtpfpjcfacbfjaaaGreatDoorShelf
import Derived.Deep.QuietTactic
import Derived.BigQuiet
import Derived.Test.YtpfpjcfacbfjaaaGreatDoorBase
import Derived.Laws.IdiomStrings
import Derived.Laws.BytesArg
import Derived.Deep.AppendLies
import Derived.Laws.OwnMore
/-
  Layer 1: bytes, tokens, cleanness: the code and the document's answer each by the same specification.
-/
namespace Go.Proofs.YtpfpjcfacbfjaaaGreatDoor
open Go.RowKit Syn

theorem punct_call (n : Nat) (h : n < 256) (w : World) :
    Calls Tryz.prog 114 #[.string ⟨#[33, 35, 36, 37, 38, 39, 42, 43, 45, 46, 94, 95, 96, 124, 126]⟩, .int .u8 (n : Int)] w fun e w' => ∃ k : Int, e = .returned (.int .i64 k) ∧ decide (0 ≤ k) = decide (n ∈ puncts) ∧ w' = w := by
  have hc := Any.strings_IndexByte Tryz.lays137 ⟨#[33, 35, 36, 37, 38, 39, 42, 43, 45, 46, 94, 95, 96, 124, 126]⟩ (n : Int) w
  refine hc.mono ?_
  rintro e w' ⟨rfl, rfl⟩
  exact ⟨_, rfl, (punct_at n h).trans (by simp), rfl⟩

theorem tcN_true {n : Nat} (h : (48 ≤ n ∧ n ≤ 57) ∨ (65 ≤ n ∧ n ≤ 90) ∨ (97 ≤ n ∧ n ≤ 122)) : tcN n = true := by
  unfold tcN; rcases h with h | h | h <;> simp [h.1, h.2]
theorem tcN_punct {n : Nat} (h : ¬ ((48 ≤ n ∧ n ≤ 57) ∨ (65 ≤ n ∧ n ≤ 90) ∨ (97 ≤ n ∧ n ≤ 122))) : tcN n = decide (n ∈ puncts) := by
  unfold tcN
  have h1 : (decide (48 ≤ n) && decide (n ≤ 57)) = false := by simp; omega
  have h2 : (decide (97 ≤ n) && decide (n ≤ 122)) = false := by simp; omega
  have h3 : (decide (65 ≤ n) && decide (n ≤ 90)) = false := by simp; omega
  rw [h1, h2, h3]; simp
/-- The seven places of a byte. -/
theorem seven (n : Nat) : n < 48 ∨ (48 ≤ n ∧ n ≤ 57) ∨ (57 < n ∧ n < 65) ∨ (65 ≤ n ∧ n ≤ 90) ∨ (90 < n ∧ n < 97) ∨ (97 ≤ n ∧ n ≤ 122) ∨ 122 < n := by omega
theorem beq_cast_false {a b : Nat} (h : a ≠ b) : (((a : Int)) == (b : Int)) = false := by simp; omega
theorem beq_cast_true {a b : Nat} (h : a = b) : (((a : Int)) == (b : Int)) = true := by simp [h]
theorem nopunct {s : ByteArray} {n : Nat} (hm : (bs s).map UInt8.toNat = puncts) (h : ∀ (j : Nat) (c : UInt8), (bs s)[j]? = some c → c.toNat ≠ n) : decide (n ∈ puncts) = false := by
  rw [← hm]
  simp only [List.mem_map, decide_eq_false_iff_not, not_exists, not_and]
  intro c hc
  obtain ⟨j, hj⟩ := List.getElem?_of_mem hc
  exact h j c hj
theorem inpunct {s : ByteArray} {n k : Nat} (hm : (bs s).map UInt8.toNat = puncts) (hk : k < s.size) (h : s[k].toNat = n) : decide (n ∈ puncts) = true := by
  rw [← hm, decide_eq_true_eq, List.mem_map]
  exact ⟨s[k], List.mem_of_getElem? (byte_at s k hk), h⟩
section
variable {p : UInt8 → Bool} {s : ByteArray} {k : Nat}
theorem all_step (h : k < s.size) (ha : ((bs s).take k).all p = true) (hp : p s[k] = true) : ((bs s).take (k + 1)).all p = true := by
  rw [take_at s k h, List.all_append, ha]; simp [hp]
theorem all_fail (h : k < s.size) (hp : p s[k] = false) : (bs s).all p = false := by
  rw [List.all_eq_false]; exact ⟨s[k], List.mem_of_getElem? (byte_at s k h), by simp [hp]⟩
theorem all_done (ha : ((bs s).take s.size).all p = true) : (bs s).all p = true := by rwa [take_all] at ha
end
theorem isEmpty_bs (s : ByteArray) : (bs s).isEmpty = decide (s.size = 0) := by
  rw [← bs_length]; cases bs s <;> simp
theorem tok_fail {s : ByteArray} {k : Nat} (h : k < s.size) (hp : tc s[k] = false) : isTok (bs s) = false := by unfold isTok; rw [all_fail h hp]; rfl
theorem tok_done {s : ByteArray} (ha : ((bs s).take s.size).all tc = true) : isTok (bs s) = decide (0 < s.size) := by
  unfold isTok; rw [all_done ha, isEmpty_bs]; simp [Nat.pos_iff_ne_zero]
theorem toList_isEmpty (s : ByteArray) : s.toList.isEmpty = decide (s.size = 0) := by rw [ByteArray.toList_eq]; exact isEmpty_bs s
theorem ne_empty (s : ByteArray) : decide (0 < s.size) = !s.toList.isEmpty := by
  rw [toList_isEmpty]; by_cases h : s.size = 0 <;> simp [h]; omega

theorem control_any (n : Nat) (hn : n < 256) (w : World) :
    Calls Tryz.prog 107 #[.int .u8 (n : Int)] w fun e w' => e = .returned (.bool (ctlN n)) ∧ w' = w := by
  have key : n < 32 ∧ n ≠ 9 ∨ n = 9 ∨ n = 127 ∨ (32 ≤ n ∧ n ≠ 127) := by omega
  rcases key with h | rfl | rfl | h
  · have e := Lib.hid (show ctlN n = true by unfold ctlN; simp [h.1, h.2])
    have h1 := beq_cast_false h.2
    have h2 := beq_cast_false (show n ≠ 127 by omega)
    go_enter Tryz.func107, Tryz.ntmps107
    go_wp2
    go_ret
    exact ⟨congrArg (fun b => Ending.returned (.bool b)) e.out.symm, rfl⟩
  · go_enter Tryz.func107, Tryz.ntmps107
    go_wp2
    go_ret
    exact ⟨rfl, rfl⟩
  · go_enter Tryz.func107, Tryz.ntmps107
    go_wp2
    go_ret
    exact ⟨rfl, rfl⟩
  · have e := Lib.hid (show ctlN n = false by unfold ctlN; simp; omega)
    have h2 : ((n : Int) == 127) = false := beq_cast_false h.2
    go_enter Tryz.func107, Tryz.ntmps107
    go_wp2
    go_ret
    exact ⟨congrArg (fun b => Ending.returned (.bool b)) e.out.symm, rfl⟩

theorem cln_fail {s : ByteArray} {k : Nat} (h : k < s.size) (hp : ctlN s[k].toNat = true) : cln (bs s) = false := all_fail h (by show (!ctlN s[k].toNat) = false; rw [hp]; rfl)
set_option maxHeartbeats 1000000 in
theorem clean_any (s : ByteArray) (w : World) (hs : s.size ≤ maxLen) :
    Calls Tryz.prog 87 #[.string s] w fun e w' => e = .returned (.bool (cln (bs s))) ∧ w' = w := by
  unfold maxLen at hs
  go_enter Tryz.func87, Tryz.ntmps87
  go_wp2
  go_loop [3, 6] (fun _ i => ∃ k : Nat, i = .int .i64 k ∧ k ≤ s.size ∧ Hid (((bs s).take k).all (fun c => !ctl c) = true)) (fun _ i => s.size - (intOf i).toNat)
  case atStart => exact ⟨0, rfl, by omega, rfl⟩
  case round =>
    obtain ⟨k, rfl, hk, ha⟩ := hrel
    by_cases hlt : k < s.size
    · have hb : s[k].toNat < 256 := s[k].toNat_lt
      cases ht : ctlN s[k].toNat
      · have hf := Lib.hid (all_step (p := fun c => !ctl c) hlt ha.out (by show (!ctlN s[k].toNat) = true; rw [ht]; rfl))
        go_wp2_with fail
        refine (control_any _ hb _).mono ?_
        rintro e w' ⟨rfl, rfl⟩
        rw [ht]
        go_wp2
        go_round
        case rel => exact ⟨k + 1, by go_num, by omega, hf⟩
        case measure => simp [intOf]; omega
      · have hf := Lib.hid (cln_fail hlt ht)
        go_wp2_with fail
        refine (control_any _ hb _).mono ?_
        rintro e w' ⟨rfl, rfl⟩
        rw [ht]
        go_wp2
        go_ret
        exact ⟨congrArg (fun b => Ending.returned (.bool b)) hf.out.symm, rfl⟩
    · obtain rfl : k = s.size := by omega
      have hf := Lib.hid (all_done ha.out)
      go_wp2
      go_ret
      exact ⟨congrArg (fun b => Ending.returned (.bool b)) hf.out.symm, rfl⟩
end Go.Proofs.YtpfpjcfacbfjaaaGreatDoor
/-
  quaysidebase: Num, Is, Texts.
-/
namespace Go.Proofs.YtpfpjcfacbfjaaaGreatDoor
open Go.RowKit

/-- The error value of a number: none for 0. -/
def errV (n : Int) : Value := if n = 0 then .nilIface else .iface 52 (.int .i64 n)
theorem errV_zero : errV 0 = .nilIface := rfl
theorem errV_form : errV 2 = .iface 52 (.int .i64 2) := rfl
theorem run_errno (n : Int) (w : World) : (Instr.typeAssert (.iface 52 (.int .i64 n)) 29 52 true).run Tryz.prog w = .ok (.tuple #[.int .i64 n, .bool true]) w := by kernel_rfl
/-- The cells of texts. -/
def strs (l : List (List UInt8)) : List Value := l.map fun x => .string (str x)
theorem strs_length (l : List (List UInt8)) : (strs l).length = l.length := by simp [strs]
theorem strs_at {l : List (List UInt8)} {k : Nat} (h : k < l.length) : (strs l)[k]? = some (.string (str l[k])) := by simp [strs, h]
theorem str_toList (a : List UInt8) : (str a).toList = a := by rw [ByteArray.toList_eq]; rfl
theorem str_ne {a b : List UInt8} (h : a ≠ b) : ((str a).toList == (str b).toList) = false := by
  rw [str_toList, str_toList, beq_eq_false_iff_ne]; exact h
theorem str_eq {a b : List UInt8} (h : a = b) : ((str a).toList == (str b).toList) = true := by
  rw [h]; exact beq_self_eq_true _
theorem str_inj {a b : List UInt8} (h : str a = str b) : a = b := by
  have := congrArg bs h; simpa [bs_str] using this
theorem Rd.drewN {w : World} {sz n : Nat} {v : Value} {xs : List Value} (h : Rd w sz v n xs) (m : Nat) : Rd (w.drewN m) sz v n xs := h
theorem take_step {α : Type} {a b : List α} {k : Nat} (h : a.take k = b.take k) (ha : k < a.length) (hb : k < b.length) (he : a[k] = b[k]) : a.take (k + 1) = b.take (k + 1) := by
  rw [List.take_succ_eq_append_getElem ha, List.take_succ_eq_append_getElem hb, h, he]
theorem ne_of_at {α : Type} [DecidableEq α] {a b : List α} {k : Nat} (ha : k < a.length) (hb : k < b.length) (he : a[k] ≠ b[k]) : decide (a = b) = false := by
  simp only [decide_eq_false_iff_not]; rintro rfl; exact he rfl
set_option maxHeartbeats 1000000 in
theorem texts_any {v1 v2 : Value} {l1 l2 : List (List UInt8)} (w : World) (h1 : Rd w 1 v1 l1.length (strs l1)) (h2 : Rd w 1 v2 l2.length (strs l2)) (hm : l1.length ≤ maxLen) :
    Calls Tryz.prog 17 #[v1, v2] w fun e w' => e = .returned (.bool (decide (l1 = l2))) ∧ ∃ n, w' = w.drewN n := by
  unfold maxLen at hm
  obtain ⟨A1, c1, rfl, hc1, -, r1⟩ := h1
  obtain ⟨A2, c2, rfl, hc2, -, r2⟩ := h2
  by_cases hl : l1.length = l2.length
  · have hbeq := beq_self_eq_true ((l1.length : Int))
    rw [← hl] at r2 hc2 ⊢
    go_enter Tryz.func17, Tryz.ntmps17
    go_wp2
    go_loopw [5, 13] (fun _ i wr => ∃ k m : Nat, i = .int .i64 k ∧ k ≤ l1.length ∧ Hid (l1.take k = l2.take k) ∧ wr = w.drewN m) (fun _ i _ => l1.length - (intOf i).toNat)
    case atStart => exact ⟨0, 0, rfl, by omega, rfl, rfl⟩
    case round =>
      rename_i _ v
      obtain ⟨k, m, rfl, hk, ht, hw⟩ := hrel
      by_cases hlt : k < l1.length
      · obtain ⟨b1, o1, rfl, _, x1⟩ := r1 (by omega)
        obtain ⟨b2, o2, rfl, _, x2⟩ := r2 (by omega)
        have hlt2 : k < l2.length := by omega
        have d1 : wr.cell? ⟨b1, o1 + k, none⟩ = some (.string (str l1[k])) := by rw [hw]; exact x1 k _ (strs_at hlt)
        have d2 : wr.cell? ⟨b2, o2 + k, none⟩ = some (.string (str l2[k])) := by rw [hw]; exact x2 k _ (strs_at hlt2)
        have Hw := Lib.hid hw
        clear hw
        by_cases he : l1[k] = l2[k]
        · have hn := Lib.hid (take_step ht.out hlt hlt2 he)
          rw [← he] at d2
          go_wp2_with fail
          go_quiet (fail)
          go_wp2
          go_roundw
          case rel => exact ⟨k + 1, m + nq, by go_num, by omega, hn, by rw [Hw.out, World.drewN_drewN]⟩
          case measure => simp [intOf]; omega
        · have hn := Lib.hid (ne_of_at hlt hlt2 he)
          have hne := str_ne he
          go_wp2_with fail
          go_quiet (fail)
          go_wp2
          go_ret
          exact ⟨congrArg (fun b => Ending.returned (.bool b)) hn.out.symm, _, by rw [Hw.out, World.drewN_drewN]⟩
      · have he : Hid (decide (l1 = l2) = true) := by
          have := ht.out
          rw [List.take_of_length_le (by omega), List.take_of_length_le (by omega)] at this
          exact decide_eq_true this
        go_wp2
        go_ret
        exact ⟨congrArg (fun b => Ending.returned (.bool b)) he.out.symm, m, rfl⟩
  · have he : decide (l1 = l2) = false := by simp only [decide_eq_false_iff_not]; rintro rfl; exact hl rfl
    have hb : ((l1.length : Int) == (l2.length : Int)) = false := by simp; omega
    rw [he]
    go_enter Tryz.func17, Tryz.ntmps17
    go_wp2
    go_ret
    exact ⟨rfl, 0, rfl⟩
end Go.Proofs.YtpfpjcfacbfjaaaGreatDoor
/-
  Layer 1: lower case, the code's and the document's.
-/
namespace Go.Proofs.YtpfpjcfacbfjaaaGreatDoor
open Go.RowKit Syn

/-- A block with a mark behind its cells. -/
def BlkM (w : World) (g : Nat) (t : TypeId) (cs : Array Value) (m : Nat) : Prop := w.heap[g]? = some (.cells cs t (m, m + 1)) ∧ cs.size ≤ m
section
variable {w w' : World} {g m : Nat} {t : TypeId} {cs : Array Value}
theorem BlkM.lt (h : BlkM w g t cs m) : g < w.heap.size := by
  rcases Nat.lt_or_ge g w.heap.size with hlt | hge
  · exact hlt
  · have := h.1; rw [Array.getElem?_eq_none hge] at this; cases this
theorem BlkM.cell (h : BlkM w g t cs m) (i : Nat) : w.cell? ⟨g, i, none⟩ = cs[i]? := by simp [World.cell?, h.1]
theorem BlkM.frozen (h : BlkM w g t cs m) (i : Nat) (hi : i < cs.size) : w.frozen? ⟨g, i, none⟩ = false := by
  have := h.2
  simp [World.frozen?, h.1]; omega
theorem BlkM.set_ (h : BlkM w g t cs m) (i : Nat) (u : Value) : BlkM (w.setCell ⟨g, i, none⟩ u) g t (cs.setIfInBounds i u) m := by
  refine ⟨?_, by simpa using h.2⟩
  have := h.1
  simp [World.setCell, Array.getElem?_modify, this]
end
theorem Blk.new (w : World) (t : TypeId) (cs : Array Value) : Blk (w.alloc (.cells cs t)) w.heap.size t cs := by
  unfold Blk; show (w.heap.push _)[w.heap.size]? = _; simp
/-- The first cells are the bytes l. -/
def Holds (cs : Array Value) (l : List UInt8) : Prop := ∀ (j : Nat) (c : UInt8), l[j]? = some c → cs[j]? = some (.int .u8 (c.toNat : Int))
theorem bytesRow_holds (s : ByteArray) (cap : Nat) : Holds (bytesRow s cap) (bs s) := by
  intro j c h
  have h' : s.data[j]? = some c := by simpa [bs] using h
  have hj : j < s.data.size := (Array.getElem?_eq_some_iff.1 h').1
  unfold bytesRow
  rw [Array.getElem?_append_left (by simpa using hj), Array.getElem?_map, h']
  rfl
theorem Holds.set_ {cs : Array Value} {a r : List UInt8} {c d : UInt8} (h : Holds cs (a ++ c :: r)) (hs : a.length < cs.size) : Holds (cs.setIfInBounds a.length (.int .u8 (d.toNat : Int))) (a ++ d :: r) := by
  intro j x hx
  rcases Nat.lt_trichotomy j a.length with hj | hj | hj
  · rw [Array.getElem?_setIfInBounds_ne (by omega)]
    refine h j x ?_
    rw [List.getElem?_append_left hj] at hx ⊢; exact hx
  · subst hj
    rw [Array.getElem?_setIfInBounds_self_of_lt hs]
    simp at hx; rw [hx]
  · rw [Array.getElem?_setIfInBounds_ne (by omega)]
    refine h j x ?_
    rw [List.getElem?_append_right (by omega)] at hx ⊢
    obtain ⟨i, hi⟩ : ∃ i, j - a.length = i + 1 := ⟨j - a.length - 1, by omega⟩
    rw [hi] at hx ⊢; simpa using hx
theorem lower_length (l : List UInt8) : (Syn.lower l).length = l.length := by simp [Syn.lower]
theorem low_take (s : ByteArray) (k : Nat) (h : k < s.size) : Syn.lower ((bs s).take (k + 1)) = Syn.lower ((bs s).take k) ++ [low s[k]] := by
  rw [take_at s k h]; simp [Syn.lower]
theorem low_up {c : UInt8} (h : 65 ≤ c.toNat) (h' : c.toNat ≤ 90) : (low c).toNat = c.toNat + 32 := by
  unfold low; rw [if_pos ⟨h, h'⟩, UInt8.toNat_add]; show (c.toNat + 32) % 256 = _; omega
theorem low_no {c : UInt8} (h : c.toNat < 65 ∨ 90 < c.toNat) : low c = c := by unfold low; rw [if_neg (by omega)]
theorem str_append (a b : List UInt8) : str a ++ str b = str (a ++ b) := by
  apply ByteArray.ext
  simp [str]
theorem strOfNums_str (l : List UInt8) : strOfNums (l.map fun c => (c.toNat : Int)) = str l := by
  unfold strOfNums str
  congr 2
  rw [List.map_map]
  conv => rhs; rw [← List.map_id l]
  congr 1
  funext c
  simp
theorem run_byte (w : World) (c : UInt8) :
    (convert 23 9 (Value.slice (some ⟨w.heap.size, 0, none⟩) 1 1)).run Tryz.prog (w.alloc (.cells #[.int .u8 (c.toNat : Int)] 5)) = Result.ok (Value.string (str [c])) (w.alloc (.cells #[.int .u8 (c.toNat : Int)] 5)) := by
  have := run_convert_bytes_arg (P := Tryz.prog) (w.alloc (.cells #[.int .u8 (c.toNat : Int)] 5)) 23 5 Tryz.underlying23 Tryz.underlying5 w.heap.size 0 1 1 [(c.toNat : Int)] rfl (by
    intro i hi
    obtain rfl : i = 0 := by omega
    exact (Blk.new w 5 #[.int .u8 (c.toNat : Int)]).cell 0) 9 Tryz.underlying9
  rw [← strOfNums_str [c]]
  exact this
theorem low_lt (c : UInt8) : (low c).toNat < 256 := (low c).toNat_lt
end Go.Proofs.YtpfpjcfacbfjaaaGreatDoor
/-
  Layer 1: Number.
-/
namespace Go.Proofs.YtpfpjcfacbfjaaaGreatDoor
open Go.RowKit Syn

/-- What Number answers: the number and the error's number. -/
def number (l : List UInt8) : Nat × Int := if digits l then (if 15 < l.length then (0, 5) else (valGo 0 l, 0)) else (0, 2)
theorem valGo_append (n : Nat) (a b : List UInt8) : valGo n (a ++ b) = valGo (valGo n a) b := by
  induction a generalizing n with
  | nil => rfl
  | cons c a ih => exact ih _
theorem val_step (n a p : Nat) (h : a ≤ 9) : (10 * n + a + 1) * p ≤ (n + 1) * (p * 10) := by
  have : (n + 1) * (p * 10) = ((n + 1) * 10) * p := by rw [Nat.mul_comm p 10, Nat.mul_assoc]
  rw [this]
  exact Nat.mul_le_mul_right p (by omega)
theorem dig_le {c : UInt8} (h : dig c = true) : c.toNat - 48 ≤ 9 := by
  unfold dig at h
  rw [Bool.and_eq_true, decide_eq_true_eq, decide_eq_true_eq] at h
  omega
theorem valGo_lt : ∀ (l : List UInt8) (n : Nat), l.all dig = true → valGo n l + 1 ≤ (n + 1) * 10 ^ l.length
  | [], n, _ => by show n + 1 ≤ (n + 1) * 1; omega
  | c :: l, n, h => by
    rw [List.all_cons, Bool.and_eq_true] at h
    have h1 := valGo_lt l (10 * n + (c.toNat - 48)) h.2
    have h2 := val_step n (c.toNat - 48) (10 ^ l.length) (dig_le h.1)
    rw [List.length_cons, Nat.pow_succ]
    exact Nat.le_trans h1 h2
theorem val_lt (l : List UInt8) (h : l.all dig = true) (hl : l.length ≤ 15) : valGo 0 l < 1000000000000000 := by
  have := valGo_lt l 0 h
  have h2 : 10 ^ l.length ≤ 1000000000000000 := Nat.le_trans (Nat.pow_le_pow_right (by decide) hl) (by decide)
  generalize 10 ^ l.length = x at this h2
  omega
theorem val_take (s : ByteArray) (k : Nat) (h : k < s.size) : valGo 0 ((bs s).take (k + 1)) = 10 * valGo 0 ((bs s).take k) + (s[k].toNat - 48) := by
  rw [take_at s k h, valGo_append]; rfl
theorem dig_at {l : List UInt8} {s : ByteArray} {k : Nat} (hl : l = bs s) (h : l.all dig = true) (hk : k < s.size) : 48 ≤ s[k].toNat ∧ s[k].toNat ≤ 57 := by
  subst hl
  have := (List.all_eq_true.1 h) s[k] (List.mem_of_getElem? (byte_at s k hk))
  unfold dig at this; simpa using this
theorem all_take {p : UInt8 → Bool} {l : List UInt8} (h : l.all p = true) (k : Nat) : (l.take k).all p = true := by
  rw [List.all_eq_true] at h ⊢; exact fun x hx => h x (List.mem_of_mem_take hx)
end Go.Proofs.YtpfpjcfacbfjaaaGreatDoor
/-
  append of one element onto a row of the call's own.
-/
namespace Go.Proofs.YtpfpjcfacbfjaaaGreatDoor
open Go.RowKit

/-- The row of a slice that the call owns: the elements' cells. -/
abbrev Own (w : World) (B : Nat) (e : TypeId) (sz : Nat) (v : Value) (n : Nat) (xs : List Value) : Prop := w.ownsRow B e sz v n xs
theorem own_below {w w' : World} {B sz n : Nat} {e : TypeId} {v : Value} {xs : List Value} (h : Own w B e sz v n xs) (hb : Below w.heap.size w w') : Own w' B e sz v n xs := by
  obtain ⟨hl, h⟩ := h
  refine ⟨hl, ?_⟩
  rcases h with h | ⟨g, cap, cur, e1, h1, hg, h2⟩
  · exact .inl h
  · refine .inr ⟨g, cap, cur, e1, h1, ?_, h2⟩
    have : g < w.heap.size := by
      rcases Nat.lt_or_ge g w.heap.size with h | h
      · exact h
      · rw [Array.getElem?_eq_none h] at hg; cases hg
    rw [hb.block g this]; exact hg
theorem own_drewN {w : World} {B sz n : Nat} {e : TypeId} {v : Value} {xs : List Value} (h : Own w B e sz v n xs) (m : Nat) : Own (w.drewN m) B e sz v n xs := h
theorem own_nil (w : World) (B : Nat) (e : TypeId) (sz : Nat) : Own w B e sz (.slice none 0 0) 0 [] := World.ownsRow_nil w B e sz
theorem below_grown {w w' : World} {B sz n : Nat} {e : TypeId} {v : Value} {xs : List Value} (h : Own w B e sz v n xs) (hg : w.grownBy w' v.ownBlock) (hB : B ≤ w.heap.size) : Below B w w' :=
  (Below.refl B w).grown hg hB fun k hk => (h.lt k hk).1

section
variable {P : Program}
/-- append of the m elements of a block onto an owned row. -/
theorem step_push {ops : Array Oper} {rest : List Oper} {o : Oper} {a : Act} {Q : Exit → Act → World → Prop} {w : World} (t e : TypeId) (z : Value) (size bytes : Nat) (s x : Operand)
    (hgd : o.guard = none) (ho : o.op = .call { callee := .builtin .append, args := #[s, x], argTypes := #[t, t] })
    (ht : P.underlying t = some (.slice e)) (hi : (P.info? e).map (fun i => (i.zero, i.size, i.bytes)) = some (some z, size, bytes)) (hzs : z.cells.size = size) (hsz : 0 < size) (hby : bytes ≤ 1000)
    {B n m c : Nat} {v : Value} {xs news : List Value} {ad : Addr} (hs : a.eval s = v) (hown : Own w B e size v n xs) (hx : a.eval x = .slice (some ad) m c) (hl : news.length = m * size)
    (hnews : ∀ j u, news[j]? = some u → w.cell? (ad.add j) = some u) (h1 : ∀ u ∈ news, u.oneCell' = true) (hn : n + m ≤ 10000000000) (hbase : B ≤ w.heap.size)
    (h : ∀ v' w', Own w' B e size v' (n + m) (xs ++ news) → Below B w w' → (v'.ownBlock = v.ownBlock ∨ v'.ownBlock = some w.heap.size) → wpList P ops Q rest (a.put o.dst v') w') : wpList P ops Q (o :: rest) a w := by
  cases hP : P.info? e with
  | none => rw [hP] at hi; cases hi
  | some i =>
    rw [hP] at hi
    simp only [Option.map_some, Option.some.injEq, Prod.mk.injEq] at hi
    obtain ⟨hz, hsize, hbytes⟩ := hi
    have hbb : (n + m) * bytes ≤ 140737488355328 := Nat.le_trans (Nat.mul_le_mul hn hby) (by decide)
    refine wpList_append_own_at w hgd s x t ho B e i z size bytes ht hP hz hsize hbytes hzs hsz v n xs hs hown ad m c news hx hl hnews h1 (by unfold maxLen; omega) hbb hbase ?_
    intro v' w' hown' hg _ hat
    exact h v' w' hown' (below_grown hown hg hbase) hat
end
theorem infoU8 : (Tryz.prog.info? 5).map (fun i => (i.zero, i.size, i.bytes)) = some (some (.int .u8 0), 1, 1) := by kernel_rfl
theorem infoStr : (Tryz.prog.info? 9).map (fun i => (i.zero, i.size, i.bytes)) = some (some (.string ⟨#[]⟩), 1, 16) := by kernel_rfl
/-- append of one byte. -/
theorem push_u8 {ops : Array Oper} {rest : List Oper} {o : Oper} {a : Act} {Q : Exit → Act → World → Prop} {w : World} (s x : Operand)
    (hgd : o.guard = none) (ho : o.op = .call { callee := .builtin .append, args := #[s, x], argTypes := #[23, 23] })
    {B n : Nat} {v u : Value} {xs : List Value} (hs : a.eval s = v) (hown : Own w B 5 1 v n xs) (hx : a.eval x = .slice (some ⟨w.heap.size, 0, none⟩) 1 1)
    (h1 : u.oneCell' = true) (hn : n < 10000000000) (hbase : B ≤ w.heap.size)
    (h : ∀ v' w', Own w' B 5 1 v' (n + 1) (xs ++ [u]) → Below B w w' → wpList Tryz.prog ops Q rest (a.put o.dst v') w') : wpList Tryz.prog ops Q (o :: rest) a (w.alloc (.cells #[u] 5)) := by
  refine step_push 23 5 (.int .u8 0) 1 1 s x hgd ho Tryz.underlying23 infoU8 rfl (by decide) (by decide) hs (hown.alloc _) hx (news := [u]) rfl (cell_one_new _ _ _) ?_ hn (by simp; omega) ?_
  · intro y hy; rw [List.mem_singleton] at hy; rw [hy]; exact h1
  · intro v' w' ho' hb _
    exact h v' w' ho' (((Below.refl B w).alloc hbase _).trans hb)
/-- append of one text. -/
theorem push_str {ops : Array Oper} {rest : List Oper} {o : Oper} {a : Act} {Q : Exit → Act → World → Prop} {w : World} (s x : Operand)
    (hgd : o.guard = none) (ho : o.op = .call { callee := .builtin .append, args := #[s, x], argTypes := #[32, 32] })
    {B n : Nat} {v u : Value} {xs : List Value} (hs : a.eval s = v) (hown : Own w B 9 1 v n xs) (hx : a.eval x = .slice (some ⟨w.heap.size, 0, none⟩) 1 1)
    (h1 : u.oneCell' = true) (hn : n < 10000000000) (hbase : B ≤ w.heap.size)
    (h : ∀ v' w', Own w' B 9 1 v' (n + 1) (xs ++ [u]) → Below B w w' → wpList Tryz.prog ops Q rest (a.put o.dst v') w') : wpList Tryz.prog ops Q (o :: rest) a (w.alloc (.cells #[u] 9)) := by
  refine step_push 32 9 (.string ⟨#[]⟩) 1 16 s x hgd ho Tryz.underlying32 infoStr rfl (by decide) (by decide) hs (hown.alloc _) hx (news := [u]) rfl (cell_one_new _ _ _) ?_ hn (by simp; omega) ?_
  · intro y hy; rw [List.mem_singleton] at hy; rw [hy]; exact h1
  · intro v' w' ho' hb _
    exact h v' w' ho' (((Below.refl B w).alloc hbase _).trans hb)

/-- The bytes' cells. -/
def u8s (l : List UInt8) : List Value := l.map fun c => .int .u8 (c.toNat : Int)
theorem u8s_length (l : List UInt8) : (u8s l).length = l.length := by simp [u8s]
theorem u8s_snoc (l : List UInt8) (c : UInt8) : u8s (l ++ [c]) = u8s l ++ [.int .u8 (c.toNat : Int)] := by simp [u8s]
theorem strs_snoc (l : List (List UInt8)) (c : List UInt8) : strs (l ++ [c]) = strs l ++ [.string (str c)] := by simp [strs]
/-- string(b) of an owned row of bytes. -/
theorem run_own_str {w : World} {B : Nat} {v : Value} {l : List UInt8} (h : Own w B 5 1 v l.length (u8s l)) :
    (convert 23 9 v).run Tryz.prog w = Result.ok (Value.string (str l)) w := by
  rcases Nat.eq_zero_or_pos l.length with h0 | hp
  · have hl : l = [] := List.eq_nil_of_length_eq_zero h0
    subst hl
    obtain ⟨_, h⟩ := h
    rcases h with ⟨rfl, _⟩ | ⟨g, cap, cur, rfl, _⟩
    · exact run_convert_bytes_nil w 23 5 Tryz.underlying23 Tryz.underlying5 0 0 9 Tryz.underlying9
    · exact run_convert_bytes_arg w 23 5 Tryz.underlying23 Tryz.underlying5 g 0 0 cap [] rfl (fun i hi => by omega) 9 Tryz.underlying9
  · obtain ⟨g, cap, rfl, _, _⟩ := h.form hp
    exact run_convert_bytes_back w 23 9 5 ⟨g, 0, none⟩ cap l Tryz.underlying23 Tryz.underlying5 Tryz.underlying9 (fun j hj => h.cells (g := g) rfl j _ (by simp [u8s, hj]))
end Go.Proofs.YtpfpjcfacbfjaaaGreatDoor
/-
  Layer 1: Quote and Unquote, the code's and the document's.
-/
namespace Go.Proofs.YtpfpjcfacbfjaaaGreatDoor
open Go.RowKit Syn

theorem own_new (w : World) (B : Nat) (e : TypeId) (u : Value) (hB : B ≤ w.heap.size) : Own (w.alloc (.cells #[u] e)) B e 1 (.slice (some ⟨w.heap.size, 0, none⟩) 1 1) 1 [u] :=
  ⟨rfl, .inr ⟨w.heap.size, 1, #[u], rfl, hB, heap_alloc_new w _, Nat.le_refl _, by decide, rfl, rfl⟩⟩
theorem u8_iff {c d : UInt8} : c = d ↔ c.toNat = d.toNat := ⟨fun h => by rw [h], fun h => UInt8.toNat_inj.1 h⟩
theorem u8_beq_true {c : UInt8} {n : Nat} (h : c.toNat = n) : ((c.toNat : Int) == (n : Int)) = true := beq_cast_true h
theorem escs_snoc (s : ByteArray) (k : Nat) (h : k < s.size) : escs ((bs s).take (k + 1)) = escs ((bs s).take k) ++ esc s[k] := by
  rw [take_at s k h]; simp [escs]
theorem esc_le (c : UInt8) : (esc c).length ≤ 2 := by unfold esc; split <;> simp
theorem escs_length (l : List UInt8) : (escs l).length ≤ 2 * l.length := by
  induction l with
  | nil => decide
  | cons c l ih =>
    have := esc_le c
    have e : escs (c :: l) = esc c ++ escs l := by simp [escs]
    rw [e, List.length_append, List.length_cons]; omega
end Go.Proofs.YtpfpjcfacbfjaaaGreatDoor
/-
  Layer 1: the document's Quote.
-/
namespace Go.Proofs.YtpfpjcfacbfjaaaGreatDoor
open Go.RowKit Syn

theorem extract_str (s : ByteArray) (a b : Nat) : s.extract a b = str (((bs s).take b).drop a) := by
  apply ByteArray.ext
  rw [ByteArray.data_extract]
  apply Array.ext'
  rw [Array.toList_extract, List.extract_eq_take_drop, ← List.drop_take]
  rfl
theorem extract_one (s : ByteArray) (k : Nat) (h : k < s.size) : s.extract k (k + 1) = str [s[k]] := by
  rw [extract_str, take_at s k h, List.drop_append_of_le_length (by rw [List.length_take, bs_length]; omega), List.drop_of_length_le (by rw [List.length_take, bs_length]; omega)]
  rfl
end Go.Proofs.YtpfpjcfacbfjaaaGreatDoor
/-
  Layer 1: Unquote, the code's and the document's.
-/
namespace Go.Proofs.YtpfpjcfacbfjaaaGreatDoor
open Go.RowKit Syn

def unqV (o : Option (List UInt8)) : Value := .tuple #[.string (str (o.getD [])), errV (if o.isSome then 0 else 2)]
def unqR (o : Option (List UInt8)) : Value := .tuple #[.string (str (o.getD [])), .bool o.isSome]
section
variable {s : ByteArray} {k : Nat} {acc : List UInt8}
theorem unqGo_cons (c : UInt8) (r : List UInt8) : unqGo acc (c :: r) = if c = 34 then (if r.isEmpty then some acc else none) else if c = 92 then (match r with | [] => none | d :: r' => unqGo (acc ++ [d]) r') else unqGo (acc ++ [c]) r := by
  rw [unqGo.eq_def]; rfl
theorem unq_end (h : s.size ≤ k) : unqGo acc ((bs s).drop k) = none := by
  rw [List.drop_of_length_le (by rw [bs_length]; exact h)]; rfl
theorem drop_empty (h : k ≤ s.size) : ((bs s).drop k).isEmpty = decide (k = s.size) := by
  have : ((bs s).drop k).length = s.size - k := by rw [List.length_drop, bs_length]
  by_cases hk : k = s.size
  · rw [List.eq_nil_of_length_eq_zero (l := (bs s).drop k) (by omega)]; simp [hk]
  · cases hd : (bs s).drop k with
    | nil => rw [hd] at this; simp at this; omega
    | cons => simp [hk]
theorem unq_q (h : k < s.size) (hc : s[k].toNat = 34) : unqGo acc ((bs s).drop k) = if k + 1 = s.size then some acc else none := by
  have h34 : s[k] = 34 := u8_iff.2 hc
  rw [drop_at s k h, unqGo_cons, if_pos h34, drop_empty (by omega)]
  by_cases hk : k + 1 = s.size <;> simp [hk]
theorem unq_b (h : k < s.size) (hc : s[k].toNat = 92) (h2 : k + 1 = s.size) : unqGo acc ((bs s).drop k) = none := by
  have h92 : s[k] = 92 := u8_iff.2 hc
  have h34 : s[k] ≠ 34 := by rw [h92]; decide
  rw [drop_at s k h, unqGo_cons, if_neg h34, if_pos h92, List.drop_of_length_le (by rw [bs_length]; omega)]
theorem unq_b2 (h : k < s.size) (hc : s[k].toNat = 92) (h2 : k + 1 < s.size) : unqGo acc ((bs s).drop k) = unqGo (acc ++ [s[k + 1]]) ((bs s).drop (k + 1 + 1)) := by
  have h92 : s[k] = 92 := u8_iff.2 hc
  have h34 : s[k] ≠ 34 := by rw [h92]; decide
  rw [drop_at s k h, unqGo_cons, if_neg h34, if_pos h92, drop_at s (k + 1) h2]
theorem unq_o (h : k < s.size) (h1 : s[k].toNat ≠ 34) (h2 : s[k].toNat ≠ 92) : unqGo acc ((bs s).drop k) = unqGo (acc ++ [s[k]]) ((bs s).drop (k + 1)) := by
  rw [drop_at s k h, unqGo_cons, if_neg (fun h => h1 (u8_iff.1 h)), if_neg (fun h => h2 (u8_iff.1 h))]
theorem unq_no (h : cln (bs s) = false ∨ s.size < 2) : unq (bs s) = none := by
  unfold unq
  rcases h with h | h
  · rw [h]; rfl
  · have : decide (2 ≤ (bs s).length) = false := by rw [bs_length]; simp; omega
    rw [this]; simp
theorem head_bs (h : 0 < s.size) : (bs s).head? = some s[0] := by
  rw [List.head?_eq_getElem?, byte_at s 0 h]
theorem unq_no0 (h : 0 < s.size) (h0 : s[0].toNat ≠ 34) : unq (bs s) = none := by
  unfold unq
  rw [head_bs h]
  have : decide (some s[0] = some (34 : UInt8)) = false := by
    simp only [decide_eq_false_iff_not, Option.some.injEq]; exact fun h => h0 (u8_iff.1 h)
  rw [this]; simp
theorem unq_yes (h : cln (bs s) = true) (h2 : 2 ≤ s.size) (h0 : s[0].toNat = 34) : unq (bs s) = unqGo [] ((bs s).drop 1) := by
  unfold unq
  rw [head_bs (by omega), h]
  have e : s[0] = 34 := u8_iff.2 h0
  have : decide (2 ≤ (bs s).length) = true := by rw [bs_length]; simp [h2]
  rw [this, e]; simp
end
end Go.Proofs.YtpfpjcfacbfjaaaGreatDoor
/-
  Layer 1: the document's Unquote.
-/
namespace Go.Proofs.YtpfpjcfacbfjaaaGreatDoor
open Go.RowKit Syn

end Go.Proofs.YtpfpjcfacbfjaaaGreatDoor
/-
  Layer 1: Trim of blanks and tabs, the code's and the document's.
-/
namespace Go.Proofs.YtpfpjcfacbfjaaaGreatDoor
open Go.RowKit Syn

def sizeV : Value → Nat
  | .string s => s.size
  | _ => 0
def trimR (l : List UInt8) : List UInt8 := (l.reverse.dropWhile Syn.blank).reverse
theorem trim_eq (l : List UInt8) : trim l = trimR (trimL l) := rfl
theorem blank_iff (c : UInt8) : Syn.blank c = (decide (c.toNat = 32) || decide (c.toNat = 9)) := by
  unfold Syn.blank
  have h1 : (c == 32) = decide (c.toNat = 32) := by rw [Bool.eq_iff_iff]; simp [u8_iff]
  have h2 : (c == 9) = decide (c.toNat = 9) := by rw [Bool.eq_iff_iff]; simp [u8_iff]
  rw [h1, h2]
theorem trimL_step {s : ByteArray} (h : 0 < s.size) (hb : Syn.blank s[0] = true) : trimL (bs s) = trimL ((bs s).drop 1) := by
  have := drop_at s 0 h
  rw [List.drop_zero] at this
  conv => lhs; rw [this]
  unfold trimL; rw [List.dropWhile_cons, if_pos hb]
theorem trimL_stop {s : ByteArray} (h : s.size = 0 ∨ ∃ h : 0 < s.size, Syn.blank s[0] = false) : trimL (bs s) = bs s := by
  rcases h with h | ⟨h, hb⟩
  · have : bs s = [] := List.eq_nil_of_length_eq_zero (by rw [bs_length]; exact h)
    rw [this]; rfl
  · have := drop_at s 0 h
    rw [List.drop_zero] at this
    rw [this]; unfold trimL; rw [List.dropWhile_cons, hb]; simp
theorem last_split {s : ByteArray} (h : 0 < s.size) : bs s = (bs s).take (s.size - 1) ++ [s[s.size - 1]] := by
  have := take_at s (s.size - 1) (by omega)
  rw [show s.size - 1 + 1 = s.size by omega, take_all] at this
  exact this
theorem trimR_step {s : ByteArray} (h : 0 < s.size) (hb : Syn.blank s[s.size - 1] = true) : trimR (bs s) = trimR ((bs s).take (s.size - 1)) := by
  conv => lhs; rw [last_split h]
  unfold trimR; rw [List.reverse_append, List.reverse_singleton, List.singleton_append, List.dropWhile_cons, if_pos hb]
theorem trimR_stop {s : ByteArray} (h : s.size = 0 ∨ ∃ h : 0 < s.size, Syn.blank s[s.size - 1] = false) : trimR (bs s) = bs s := by
  rcases h with h | ⟨h, hb⟩
  · have : bs s = [] := List.eq_nil_of_length_eq_zero (by rw [bs_length]; exact h)
    rw [this]; rfl
  · have e := last_split h
    unfold trimR
    have : (bs s).reverse = s[s.size - 1] :: ((bs s).take (s.size - 1)).reverse := by
      conv => lhs; rw [e]
      rw [List.reverse_append, List.reverse_singleton, List.singleton_append]
    rw [this, List.dropWhile_cons, hb]
    simp only [Bool.false_eq_true, if_false]
    rw [← this, List.reverse_reverse]
theorem extract_tail (s : ByteArray) : bs (s.extract 1 s.size) = (bs s).drop 1 := by rw [extract_str, bs_str, take_all]
theorem extract_init (s : ByteArray) : bs (s.extract 0 (s.size - 1)) = (bs s).take (s.size - 1) := by rw [extract_str, bs_str, List.drop_zero]
theorem extract_size1 (s : ByteArray) : (s.extract 1 s.size).size = s.size - 1 := by rw [← bs_length, extract_tail, List.length_drop, bs_length]
theorem extract_size2 (s : ByteArray) : (s.extract 0 (s.size - 1)).size = s.size - 1 := by rw [← bs_length, extract_init, List.length_take, bs_length]; omega
end Go.Proofs.YtpfpjcfacbfjaaaGreatDoor
/-
  Layer 1: the parts between separators, the code's.
-/
namespace Go.Proofs.YtpfpjcfacbfjaaaGreatDoor
open Go.RowKit Syn

theorem trimR_cons (c : UInt8) (l : List UInt8) : trimR (c :: l) = if trimR l = [] then (if Syn.blank c then [] else [c]) else c :: trimR l := by
  unfold trimR
  rw [List.reverse_cons, List.dropWhile_append]
  by_cases h : (l.reverse.dropWhile Syn.blank).isEmpty
  · rw [if_pos h, if_pos (by rw [List.isEmpty_iff] at h; rw [h]; rfl)]
    rw [List.dropWhile_cons]
    split <;> simp
  · rw [if_neg h, if_neg (by rw [List.isEmpty_iff] at h; simpa using h)]
    simp
theorem trim_comm : ∀ l : List UInt8, trimL (trimR l) = trimR (trimL l)
  | [] => rfl
  | c :: l => by
    have ih := trim_comm l
    rw [trimR_cons]
    by_cases hb : Syn.blank c = true
    · have e : trimL (c :: l) = trimL l := by unfold trimL; rw [List.dropWhile_cons, if_pos hb]
      rw [e]
      by_cases h : trimR l = []
      · rw [if_pos h, if_pos hb, ← ih, h]
      · rw [if_neg h, ← ih]
        unfold trimL; rw [List.dropWhile_cons, if_pos hb]
    · have e : ∀ r, trimL (c :: r) = c :: r := fun r => by unfold trimL; rw [List.dropWhile_cons, if_neg hb]
      rw [e l, trimR_cons]
      by_cases h : trimR l = []
      · rw [if_pos h, if_neg hb]; exact e []
      · rw [if_neg h]; exact e _
theorem trimS_eq (l : List UInt8) : Lib.trimS l [32, 9] = trim l := by
  have hp : (fun b : UInt8 => ([32, 9] : List UInt8).contains b) = Syn.blank := by
    funext b
    unfold Syn.blank
    simp only [List.contains, List.elem]
    cases (b == 32) <;> cases (b == 9) <;> rfl
  unfold Lib.trimS Lib.trimLeftS Lib.trimRightS
  rw [hp, trim_eq, ← trim_comm]
  rfl
theorem trim_any (s : ByteArray) (w : World) (hs : s.size ≤ 9223372036854775807) :
    Calls Tryz.prog 88 #[.string s, .string ⟨#[32, 9]⟩] w fun e w' => e = .returned (.string (str (trim (bs s)))) ∧ Below w.heap.size w w' := by
  have hcon := Any.strings_Trim_laid Tryz.lays160 (by kernel_rfl) s ⟨#[32, 9]⟩ w hs (by decide) (ascii_of_all (by decide))
  refine hcon.mono ?_
  rintro e w' ⟨rfl, hb⟩
  exact ⟨congrArg (fun l => Ending.returned (.string (str l))) (trimS_eq (bs s)), hb⟩

def PartsOut (w : World) (B : Nat) (v : Value) : Option (List (List UInt8)) → Prop
  | none => v = .slice none 0 0
  | some l => Own w B 9 1 v l.length (strs l)
theorem partsGo_cons (b : UInt8) (q : Bool) (cur : List UInt8) (out : List (List UInt8)) (c : UInt8) (r : List UInt8) : partsGo b q cur out (c :: r) =
    if q && decide (c = 92) then (match r with | [] => none | d :: r' => partsGo b q (cur ++ [c, d]) out r')
    else if c = 34 then partsGo b (!q) (cur ++ [c]) out r
    else if !q && decide (c = b) then partsGo b q [] (out ++ [trim cur]) r
    else partsGo b q (cur ++ [c]) out r := by
  rw [partsGo.eq_def]; rfl
/-- The current part. -/
def cur (s : ByteArray) (f k : Nat) : List UInt8 := ((bs s).take k).drop f
section
variable {s : ByteArray} {f k : Nat} {b : UInt8} {q : Bool} {out : List (List UInt8)}
theorem cur_step (h : k < s.size) (hf : f ≤ k) : cur s f (k + 1) = cur s f k ++ [s[k]] := by
  unfold cur
  rw [take_at s k h, List.drop_append_of_le_length (by rw [List.length_take, bs_length]; omega)]
theorem cur_new : cur s (k + 1) (k + 1) = [] := by
  unfold cur
  rw [List.drop_of_length_le (by rw [List.length_take]; omega)]
theorem pt_esc (h : k < s.size) (hf : f ≤ k) (hc : s[k].toNat = 92) : partsGo b true (cur s f k) out ((bs s).drop k) = partsGo b true (cur s f (k + 1 + 1)) out ((bs s).drop (k + 1 + 1)) := by
  have h92 : s[k] = 92 := u8_iff.2 hc
  rw [drop_at s k h, partsGo_cons, if_pos (by simp [h92])]
  by_cases he : k + 1 < s.size
  · rw [drop_at s (k + 1) he, cur_step he (by omega), cur_step h hf, List.append_assoc]; rfl
  · rw [List.drop_of_length_le (by rw [bs_length]; omega), List.drop_of_length_le (by rw [bs_length]; omega)]
    rw [partsGo]; rfl
theorem pt_quote (h : k < s.size) (hf : f ≤ k) (hc : s[k].toNat = 34) : partsGo b q (cur s f k) out ((bs s).drop k) = partsGo b (!q) (cur s f (k + 1)) out ((bs s).drop (k + 1)) := by
  have h34 : s[k] = 34 := u8_iff.2 hc
  have hn : (q && decide (s[k] = 92)) = false := by rw [h34]; cases q <;> decide
  rw [drop_at s k h, partsGo_cons, hn, cur_step h hf]; simp [h34]
theorem pt_sep (h : k < s.size) (hc : s[k].toNat ≠ 34) (hs : s[k].toNat = b.toNat) : partsGo b false (cur s f k) out ((bs s).drop k) = partsGo b false (cur s (k + 1) (k + 1)) (out ++ [trim (cur s f k)]) ((bs s).drop (k + 1)) := by
  have hb : s[k] = b := u8_iff.2 hs
  have h34 : s[k] ≠ 34 := fun h => hc (u8_iff.1 h)
  rw [drop_at s k h, partsGo_cons, cur_new]
  rw [if_neg (by simp), if_neg h34, if_pos (by simp [hb])]
theorem pt_other (h : k < s.size) (hf : f ≤ k) (h1 : s[k].toNat ≠ 34) (h2 : q = true → s[k].toNat ≠ 92) (h3 : q = false → s[k].toNat ≠ b.toNat) : partsGo b q (cur s f k) out ((bs s).drop k) = partsGo b q (cur s f (k + 1)) out ((bs s).drop (k + 1)) := by
  have h34 : s[k] ≠ 34 := fun h => h1 (u8_iff.1 h)
  have hn : (q && decide (s[k] = 92)) = false := by
    cases q
    · rfl
    · have : s[k] ≠ 92 := fun h => h2 rfl (u8_iff.1 h)
      simp [this]
  have hm : (!q && decide (s[k] = b)) = false := by
    cases q
    · have : s[k] ≠ b := fun h => h3 rfl (u8_iff.1 h)
      simp [this]
    · rfl
  rw [drop_at s k h, partsGo_cons, hn, if_neg h34, hm, cur_step h hf]; simp
theorem pt_end (h : s.size ≤ k) : partsGo b q (cur s f k) out ((bs s).drop k) = if q then none else some (out ++ [trim ((bs s).drop f)]) := by
  rw [List.drop_of_length_le (by rw [bs_length]; exact h)]
  unfold cur
  rw [List.take_of_length_le (by rw [bs_length]; exact h), partsGo]
theorem extract_cur : bs (s.extract f k) = cur s f k := by rw [extract_str, bs_str]; rfl
theorem extract_rest : bs (s.extract f s.size) = (bs s).drop f := by rw [extract_str, bs_str, take_all]
theorem extract_le (s : ByteArray) (a b : Nat) : (s.extract a b).size ≤ s.size := by rw [← bs_length, extract_str, bs_str, List.length_drop, List.length_take, bs_length]; omega
end
end Go.Proofs.YtpfpjcfacbfjaaaGreatDoor
/-
  Layer 1: the walk of parts.
-/
namespace Go.Proofs.YtpfpjcfacbfjaaaGreatDoor
open Go.RowKit Syn

/-- The number of the error: ErrForm for none. -/
def errO {α : Type} (o : Option α) : Int := if o.isSome then 0 else 2
set_option maxRecDepth 100000 in
set_option maxHeartbeats 4000000 in
theorem parts_any (s : ByteArray) (b : UInt8) (w : World) (hs : s.size ≤ 1000000000) :
    Calls Tryz.prog 51 #[.string s, .int .u8 (b.toNat : Int)] w fun e w' => ∃ v, e = .returned (.tuple #[v, errV (errO (parts b (bs s)))]) ∧ PartsOut w' w.heap.size v (parts b (bs s)) ∧ Below w.heap.size w w' := by
  cases hc : cln (bs s)
  · have hp : parts b (bs s) = none := by unfold parts; rw [hc]; rfl
    rw [hp]
    go_enter Tryz.func51, Tryz.ntmps51
    go_wp2_with (go_at_call 87; refine (clean_any s _ (by unfold maxLen; omega)).mono ?_; rintro e w' ⟨rfl, rfl⟩; rw [hc])
    go_ret2
    exact ⟨_, rfl, rfl, Below.refl _ _⟩
  · have hp : Hid (parts b (bs s) = partsGo b false [] [] (bs s)) := Lib.hid (by unfold parts; rw [hc]; rfl)
    go_enter Tryz.func51, Tryz.ntmps51
    go_wp2_with (go_at_call 87; refine (clean_any s _ (by unfold maxLen; omega)).mono ?_; rintro e w' ⟨rfl, rfl⟩; rw [hc])
    go_loopw [6, 7, 8, 9] (fun o fr qu i wr => ∃ (k f : Nat) (q : Bool) (out : List (List UInt8)), i = .int .i64 k ∧ fr = .int .i64 f ∧ qu = .bool q ∧ k ≤ s.size + 1 ∧ f ≤ s.size ∧ f ≤ k ∧ Hid (out.length ≤ k) ∧ Hid (Own wr w'.heap.size 9 1 o out.length (strs out)) ∧ Hid (parts b (bs s) = partsGo b q (cur s f k) out ((bs s).drop k)) ∧ Hid (Below w'.heap.size w' wr)) (fun _ _ _ i _ => s.size + 1 - (intOf i).toNat)
    case atStart => exact ⟨0, 0, false, [], rfl, rfl, rfl, by omega, by omega, by omega, Nat.le_refl _, own_nil _ _ _ _, hp, Below.refl _ _⟩
    case round =>
      obtain ⟨k, f, q, out, rfl, rfl, rfl, hk, hf, hfk, hlen, ho, hP, hB⟩ := hrel
      have hBw := hB.out.size
      have hlen' : out.length ≤ 1000000001 := by have := hlen.out; omega
      by_cases hlt : k < s.size
      · by_cases hA : q = true ∧ s[k].toNat = 92
        · obtain ⟨rfl, h92⟩ := hA
          have hb2 : ((s[k].toNat : Int) == 92) = true := u8_beq_true h92
          have hr := Lib.hid (hP.out.trans (pt_esc hlt hfk h92))
          clear h92
          go_wp2
          go_roundw
          case rel => exact ⟨k + 1 + 1, f, true, out, by go_num, rfl, rfl, by omega, hf, by omega, Lib.hid (by have := hlen.out; omega), ho, hr, hB⟩
          case measure => simp [intOf]; omega
        · by_cases h34 : s[k].toNat = 34
          · have hb1 : ((s[k].toNat : Int) == 34) = true := u8_beq_true h34
            have hb2 : ((s[k].toNat : Int) == 92) = false := beq_cast_false (show s[k].toNat ≠ 92 by omega)
            have hr := Lib.hid (hP.out.trans (pt_quote hlt hfk h34))
            clear h34 hA
            cases q
            · go_wp2
              go_roundw
              case rel => exact ⟨k + 1, f, true, out, by go_num, rfl, rfl, by omega, hf, by omega, Lib.hid (by have := hlen.out; omega), ho, hr, hB⟩
              case measure => simp [intOf]; omega
            · go_wp2
              go_roundw
              case rel => exact ⟨k + 1, f, false, out, by go_num, rfl, rfl, by omega, hf, by omega, Lib.hid (by have := hlen.out; omega), ho, hr, hB⟩
              case measure => simp [intOf]; omega
          · have hb1 : ((s[k].toNat : Int) == 34) = false := beq_cast_false h34
            cases q
            · by_cases hsep : s[k].toNat = b.toNat
              · have hb3 : ((s[k].toNat : Int) == (b.toNat : Int)) = true := beq_cast_true hsep
                have hr := Lib.hid (hP.out.trans (pt_sep hlt h34 hsep))
                have hx := Lib.hid (extract_cur (s := s) (f := f) (k := k))
                have hxs := extract_le s f k
                clear h34 hA hsep
                go_wp2_with fail
                refine (trim_any (s.extract f k) _ (by omega)).mono ?_
                rintro e w1 ⟨rfl, hb1⟩
                have ho1 := Lib.hid (own_below ho.out hb1)
                have hB1 := Lib.hid (Below.next hB.out hBw hb1)
                clear hb1
                have hBw1 := hB1.out.size
                go_wp2_with (at_builtin; refine push_str _ _ rfl rfl rfl ho1.out rfl rfl (by omega) hBw1 ?_; intro v2 w2 ho2 hb2; replace ho2 := Lib.hid ho2; have hB2 := Lib.hid (hB1.out.trans hb2); clear hb2)
                go_roundw
                case rel =>
                  refine ⟨k + 1, k + 1, false, out ++ [trim (cur s f k)], by go_num, by go_num, rfl, by omega, by omega, by omega, Lib.hid ?_, Lib.hid ?_, hr, hB2⟩
                  · have := hlen.out; simp; omega
                  · rw [strs_snoc]; have h := ho2.out; rw [hx.out] at h; simpa using h
                case measure => simp [intOf]; omega
              · have hb3 : ((s[k].toNat : Int) == (b.toNat : Int)) = false := beq_cast_false hsep
                have hr := Lib.hid (hP.out.trans (pt_other hlt hfk h34 (fun h => by cases h) (fun _ => hsep)))
                clear h34 hA hsep
                go_wp2
                go_roundw
                case rel => exact ⟨k + 1, f, false, out, by go_num, rfl, rfl, by omega, hf, by omega, Lib.hid (by have := hlen.out; omega), ho, hr, hB⟩
                case measure => simp [intOf]; omega
            · have h92 : s[k].toNat ≠ 92 := fun h => hA ⟨rfl, h⟩
              have hb2 : ((s[k].toNat : Int) == 92) = false := beq_cast_false h92
              have hr := Lib.hid (hP.out.trans (pt_other hlt hfk h34 (fun _ => h92) (fun h => by cases h)))
              clear h34 hA h92
              go_wp2
              go_roundw
              case rel => exact ⟨k + 1, f, true, out, by go_num, rfl, rfl, by omega, hf, by omega, Lib.hid (by have := hlen.out; omega), ho, hr, hB⟩
              case measure => simp [intOf]; omega
      · have hr := hP.out.trans (pt_end (by omega))
        have hge : s.size ≤ k := by omega
        have hdl : decide ((k : Int) < (s.size : Int)) = false := by rw [decide_eq_false_iff_not]; omega
        cases q
        · rw [if_neg (by decide)] at hr
          replace hr := Lib.hid hr
          have hx := Lib.hid (extract_rest (s := s) (f := f))
          have hxs := extract_le s f s.size
          go_wp2_with fail
          refine (trim_any (s.extract f s.size) _ (by omega)).mono ?_
          rintro e w1 ⟨rfl, hb1⟩
          have ho1 := Lib.hid (own_below ho.out hb1)
          have hB1 := Lib.hid (Below.next hB.out hBw hb1)
          clear hb1
          have hBw1 := hB1.out.size
          go_wp2_with (at_builtin; refine push_str _ _ rfl rfl rfl ho1.out rfl rfl (by omega) hBw1 ?_; intro v2 w2 ho2 hb2; replace ho2 := Lib.hid ho2; have hB2 := Lib.hid (hB1.out.trans hb2); clear hb2)
          go_ret2
          refine ⟨v2, by rw [hr.out]; rfl, ?_, hB2.out⟩
          rw [hr.out]
          show Own _ _ _ 1 v2 (out ++ [_]).length (strs (out ++ [_]))
          rw [strs_snoc]; have h := ho2.out; rw [hx.out] at h; simpa using h
        · rw [if_pos rfl] at hr
          replace hr := Lib.hid hr
          go_wp2
          go_ret2
          exact ⟨_, by rw [hr.out]; rfl, by rw [hr.out]; rfl, hB.out⟩
end Go.Proofs.YtpfpjcfacbfjaaaGreatDoor
/-
  Layer 1: the walk of the document's Parts.
-/
namespace Go.Proofs.YtpfpjcfacbfjaaaGreatDoor
open Go.RowKit Syn

theorem parts_none {b : UInt8} {s : ByteArray} (h : partsGo b false [] [] (bs s) = none) : parts b (bs s) = none := by
  unfold parts; rw [h]; split <;> rfl
end Go.Proofs.YtpfpjcfacbfjaaaGreatDoor
/-
  Layer 1: List, the code's and the document's.
-/
namespace Go.Proofs.YtpfpjcfacbfjaaaGreatDoor
open Go.RowKit Syn

theorem own_mono {w : World} {B B' sz n : Nat} {e : TypeId} {v : Value} {xs : List Value} (h : Own w B e sz v n xs) (hB : B' ≤ B) : Own w B' e sz v n xs := by
  obtain ⟨hl, h⟩ := h
  refine ⟨hl, ?_⟩
  rcases h with h | ⟨g, cap, cur, e1, h1, h2⟩
  · exact .inl h
  · exact .inr ⟨g, cap, cur, e1, Nat.le_trans hB h1, h2⟩
def full (l : List (List UInt8)) : List (List UInt8) := l.filter fun y => !y.isEmpty
theorem full_yes {l : List (List UInt8)} {k : Nat} (h : k < l.length) (hx : l[k].isEmpty = false) : full (l.take (k + 1)) = full (l.take k) ++ [l[k]] := by
  unfold full
  rw [List.take_succ_eq_append_getElem h, List.filter_append]; simp [hx]
theorem full_no {l : List (List UInt8)} {k : Nat} (h : k < l.length) (hx : l[k].isEmpty = true) : full (l.take (k + 1)) = full (l.take k) := by
  unfold full
  rw [List.take_succ_eq_append_getElem h, List.filter_append]; simp [hx]
theorem full_le (l : List (List UInt8)) (k : Nat) : (full (l.take k)).length ≤ k := by
  have h1 := List.length_filter_le (fun y : List UInt8 => !y.isEmpty) (l.take k)
  have h2 := List.length_take_le k l
  exact Nat.le_trans h1 h2
theorem str_isEmpty (x : List UInt8) : (str x).toList.isEmpty = x.isEmpty := by rw [str_toList]
theorem partsGo_len (b : UInt8) : ∀ (n : Nat) (r : List UInt8) (q : Bool) (c : List UInt8) (out l : List (List UInt8)), r.length ≤ n → partsGo b q c out r = some l → l.length ≤ out.length + r.length + 1
  | n, [], q, c, out, l, _, h => by
    rw [partsGo] at h
    cases q
    · simp at h; rw [← h]; simp
    · simp at h
  | 0, _ :: _, _, _, _, _, hn, _ => by simp at hn
  | n + 1, a :: r, q, c, out, l, hn, h => by
    rw [partsGo_cons] at h
    simp only [List.length_cons] at hn ⊢
    split at h
    · cases r with
      | nil => cases h
      | cons d r' =>
        simp only [List.length_cons] at hn ⊢
        have := partsGo_len b n r' _ _ _ _ (by omega) h
        omega
    · split at h
      · have := partsGo_len b n r _ _ _ _ (by omega) h
        omega
      · split at h
        · have := partsGo_len b n r _ _ _ _ (by omega) h
          simp at this; omega
        · have := partsGo_len b n r _ _ _ _ (by omega) h
          omega
theorem parts_len {b : UInt8} {s : ByteArray} {l : List (List UInt8)} (h : parts b (bs s) = some l) : l.length ≤ s.size + 1 := by
  unfold parts at h
  split at h
  · have := partsGo_len b _ _ _ _ _ _ (Nat.le_refl _) h
    rw [bs_length] at this; simpa using this
  · cases h
set_option maxRecDepth 100000 in
set_option maxHeartbeats 4000000 in
theorem list_any (s : ByteArray) (w : World) (hs : s.size ≤ 1000000000) :
    Calls Tryz.prog 33 #[.string s] w fun e w' => ∃ v, e = .returned (.tuple #[v, errV (errO (Syn.list (bs s)))]) ∧ PartsOut w' w.heap.size v (Syn.list (bs s)) ∧ Below w.heap.size w w' := by
  have hpa : ∀ w, Calls Tryz.prog 51 #[.string s, .int .u8 44] w fun e w' => ∃ v, e = .returned (.tuple #[v, errV (errO (parts 44 (bs s)))]) ∧ PartsOut w' w.heap.size v (parts 44 (bs s)) ∧ Below w.heap.size w w' := fun w => parts_any s 44 w hs
  cases hp : parts 44 (bs s) with
  | none =>
    have hl : Hid (Syn.list (bs s) = none) := Lib.hid (by unfold Syn.list; rw [hp]; rfl)
    rw [hp] at hpa
    go_enter Tryz.func33, Tryz.ntmps33
    go_wp2_with fail
    refine (hpa _).mono ?_
    rintro e w1 ⟨v, rfl, hv, hb⟩
    rw [show errV (errO (none : Option (List (List UInt8)))) = .iface 52 (.int .i64 2) from rfl]
    go_wp2
    go_ret2
    exact ⟨_, by rw [hl.out]; rfl, by rw [hl.out]; rfl, hb⟩
  | some l =>
    have hl : Hid (Syn.list (bs s) = some (full l)) := Lib.hid (by unfold Syn.list; rw [hp]; rfl)
    have hln : l.length ≤ 1000000001 := by have := parts_len hp; omega
    rw [hp] at hpa
    go_enter Tryz.func33, Tryz.ntmps33
    go_wp2_with fail
    refine (hpa _).mono ?_
    rintro e w1 ⟨v, rfl, hv, hb⟩
    rw [show errV (errO (some l)) = .nilIface from rfl]
    clear hpa hp
    have hR : Rd w1 1 v l.length (strs l) := Rd.own hv
    obtain ⟨A, cap, rfl, hcap, -, -⟩ := id hR
    have hb' := Lib.hid hb
    clear hv hb
    go_wp2
    go_loopw [6, 8, 19] (fun o _ i wr => ∃ k : Nat, i = .int .i64 k ∧ k ≤ l.length ∧ Hid (Own wr w1.heap.size 9 1 o (full (l.take k)).length (strs (full (l.take k)))) ∧ Hid (Below w1.heap.size w1 wr)) (fun _ _ i _ => l.length - (intOf i).toNat)
    case atStart => exact ⟨0, rfl, by omega, own_nil _ _ _ _, Below.refl _ _⟩
    case round =>
      obtain ⟨k, rfl, hk, ho, hB⟩ := hrel
      have hBw := hB.out.size
      have hfl := full_le l k
      by_cases hlt : k < l.length
      · have hR' := hR.below hB.out
        obtain ⟨A', cap', e', -, -, r'⟩ := hR'
        cases e'
        obtain ⟨b1, o1, rfl, _, x1⟩ := r' (by omega)
        have d1 : wr.cell? ⟨b1, o1 + k, none⟩ = some (.string (str l[k])) := x1 k _ (strs_at hlt)
        cases hx : l[k].isEmpty
        · have hxe : (str l[k]).toList.isEmpty = false := by rw [str_isEmpty]; exact hx
          have hf := Lib.hid (full_yes hlt hx)
          clear hx x1 r'
          go_wp2_with (at_builtin; refine push_str _ _ rfl rfl rfl ho.out rfl rfl (by omega) hBw ?_; intro v2 w2 ho2 hb2; replace ho2 := Lib.hid ho2; have hB2 := Lib.hid (hB.out.trans hb2); clear hb2)
          go_roundw
          case rel =>
            refine ⟨k + 1, by go_num, by omega, Lib.hid ?_, hB2⟩
            rw [hf.out, strs_snoc]; simpa using ho2.out
          case measure => simp [intOf]; omega
        · have hxe : (str l[k]).toList.isEmpty = true := by rw [str_isEmpty]; exact hx
          have hf := Lib.hid (full_no hlt hx)
          clear hx x1 r'
          go_wp2
          go_roundw
          case rel => exact ⟨k + 1, by go_num, by omega, by rw [hf.out]; exact ho, hB⟩
          case measure => simp [intOf]; omega
      · obtain rfl : k = l.length := by omega
        rw [List.take_length] at ho
        go_wp2
        go_ret2
        refine ⟨_, by rw [hl.out]; rfl, ?_, Below.next hb'.out hb'.out.size hB.out⟩
        rw [hl.out]
        exact own_mono ho.out hb'.out.size
end Go.Proofs.YtpfpjcfacbfjaaaGreatDoor
/-
  Layer 1: the document's List.
-/
namespace Go.Proofs.YtpfpjcfacbfjaaaGreatDoor
open Go.RowKit Syn

end Go.Proofs.YtpfpjcfacbfjaaaGreatDoor
