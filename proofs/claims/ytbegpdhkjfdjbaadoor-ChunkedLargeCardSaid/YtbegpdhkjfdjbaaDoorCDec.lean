/-
  Layer 7: the decoder's memory: what a call keeps besides some blocks; cells; the smallest functions.
-/
import Derived.Test.YtbegpdhkjfdjbaaDoorCField
namespace Go.Proofs.YtbegpdhkjfdjbaaDoor
open Go.RowKit Syn Ck

/-- From w to w' only blocks of F may have turned, and blocks may have come. -/
structure Kp (F : Nat → Prop) (w w' : World) : Prop where
  os : w'.os = w.os
  tape : w'.tape = w.tape
  output : w'.output = w.output
  size : w.heap.size ≤ w'.heap.size
  block : ∀ k, k < w.heap.size → ¬ F k → w'.heap[k]? = w.heap[k]?
section
variable {F G : Nat → Prop} {a w w' : World}
theorem Kp.refl (F : Nat → Prop) (w : World) : Kp F w w := ⟨rfl, rfl, rfl, Nat.le_refl _, fun _ _ _ => rfl⟩
theorem Kp.next (h : Kp F a w) (hG : ∀ k, k < a.heap.size → G k → F k) (h2 : Kp G w w') : Kp F a w' :=
  ⟨h2.os.trans h.os, h2.tape.trans h.tape, h2.output.trans h.output, Nat.le_trans h.size h2.size,
    fun k hk hF => (h2.block k (Nat.lt_of_lt_of_le hk h.size) (fun hg => hF (hG k hk hg))).trans (h.block k hk hF)⟩
theorem Kp.trans (h : Kp F a w) (h2 : Kp F w w') : Kp F a w' := h.next (fun _ _ h => h) h2
theorem Kp.mono (h : Kp G a w) (hG : ∀ k, k < a.heap.size → G k → F k) : Kp F a w := (Kp.refl F a).next hG h
theorem Kp.drew (h : Kp F a w) : Kp F a w.drew := ⟨h.os, h.tape, h.output, h.size, h.block⟩
theorem Kp.alloc (h : Kp F a w) (o : Obj) : Kp F a (w.alloc o) :=
  ⟨h.os, h.tape, h.output, Nat.le_trans h.size (by simp), fun k hk hF => (Below.heap_alloc w o k (Nat.lt_of_lt_of_le hk h.size)).trans (h.block k hk hF)⟩
theorem Kp.set_ (h : Kp F a w) {g : Nat} (hg : g < a.heap.size → F g) (i : Nat) (u : Value) : Kp F a (w.setCell ⟨g, i, none⟩ u) :=
  ⟨h.os, h.tape, h.output, by rw [size_setCell]; exact h.size, fun k hk hF => (Below.heap_setCell w ⟨g, i, none⟩ u k (by rintro rfl; exact hF (hg hk))).trans (h.block k hk hF)⟩
theorem Kp.below (h : Kp F a w) (hb : Below w.heap.size w w') : Kp F a w' :=
  ⟨hb.os.trans h.os, hb.tape.trans h.tape, hb.output.trans h.output, Nat.le_trans h.size hb.size,
    fun k hk hF => (hb.block k (Nat.lt_of_lt_of_le hk h.size)).trans (h.block k hk hF)⟩
theorem Kp.grown (h : Kp F a w) {row : Option Nat} (hg : w.grownBy w' row) (hr : ∀ k, row = some k → k < a.heap.size → F k) : Kp F a w' :=
  ⟨hg.os.trans h.os, hg.tape.trans h.tape, hg.output.trans h.output, Nat.le_trans h.size hg.size,
    fun k hk hF => (hg.block k (Nat.lt_of_lt_of_le hk h.size) (fun e => hF (hr k e.symm hk))).trans (h.block k hk hF)⟩
theorem Kp.toBelow (h : Kp F a w) {B : Nat} (hB : B ≤ a.heap.size) (hF : ∀ k, F k → B ≤ k) : Below B a w :=
  ⟨h.os, h.tape, h.output, h.size, fun k hk => h.block k (by omega) (fun hf => by have := hF k hf; omega)⟩
theorem Kp.cell (h : Kp F a w) {p : Addr} (hp : p.block < a.heap.size) (hF : ¬ F p.block) : w.cell? p = a.cell? p := World.cell?_of_block (h.block p.block hp hF)
/-- Not a block of F. -/
def Off (F : Nat → Prop) (v : Value) : Prop := ∀ k, v.ownBlock = some k → ¬ F k
theorem Blk.kp {g : Nat} {t : TypeId} {cs : Array Value} (h : Blk a g t cs) (hg : ¬ F g) (hk : Kp F a w) : Blk w g t cs := (hk.block g h.lt hg).trans h
theorem Own.kp {B sz n : Nat} {e : TypeId} {v : Value} {xs : List Value} (h : Own a B e sz v n xs) (hF : Off F v) (hk : Kp F a w) : Own w B e sz v n xs := by
  obtain ⟨hl, h⟩ := h
  refine ⟨hl, ?_⟩
  rcases h with h | ⟨g, cap, cur, e1, h1, hg, h2⟩
  · exact .inl h
  · refine .inr ⟨g, cap, cur, e1, h1, ?_, h2⟩
    have hlt : g < a.heap.size := by
      rcases Nat.lt_or_ge g a.heap.size with h | h
      · exact h
      · rw [Array.getElem?_eq_none h] at hg; cases hg
    rw [hk.block g hlt (hF g (by rw [e1]; rfl))]; exact hg
theorem Rd.kp {sz n : Nat} {v : Value} {xs : List Value} (h : Rd a sz v n xs) (hF : Off F v) (hk : Kp F a w) : Rd w sz v n xs := by
  obtain ⟨A, cap, e, hc, hl, h⟩ := h
  refine ⟨A, cap, e, hc, hl, fun hn => ?_⟩
  obtain ⟨b, off, e1, hlt, hx⟩ := h hn
  exact ⟨b, off, e1, Nat.lt_of_lt_of_le hlt hk.size, fun j u hu => by rw [hk.cell (p := ⟨b, off + j, none⟩) hlt (hF b (by rw [e, e1]; rfl))]; exact hx j u hu⟩
theorem Own.base {B B' sz n : Nat} {e : TypeId} {v : Value} {xs : List Value} (h : Own w B e sz v n xs) (hB : B' ≤ B) : Own w B' e sz v n xs := by
  obtain ⟨hl, h⟩ := h
  refine ⟨hl, ?_⟩
  rcases h with h | ⟨g, cap, cur, e1, h1, h2⟩
  · exact .inl h
  · exact .inr ⟨g, cap, cur, e1, Nat.le_trans hB h1, h2⟩
theorem Own.lt {B sz n : Nat} {e : TypeId} {v : Value} {xs : List Value} (h : Own w B e sz v n xs) {k : Nat} (hk : v.ownBlock = some k) : k < w.heap.size := (World.ownsRow.lt h k hk).2
theorem Own.ne {B sz n g : Nat} {e t : TypeId} {v : Value} {xs : List Value} {cs : Array Value} (h : Own w B e sz v n xs) (hb : Blk w g t cs) (ht : e ≠ t) : v.ownBlock ≠ some g := by
  intro hk
  rcases h.2 with ⟨rfl, _⟩ | ⟨g', cap, cur, rfl, _, hg, _⟩
  · cases hk
  · simp only [Value.ownBlock, Option.some.injEq] at hk
    subst hk
    unfold Blk at hb
    rw [hb] at hg
    injection hg with hg
    injection hg with _ h2 _
    exact ht h2.symm
theorem Own.apart {B B' sz sz' n n' : Nat} {e t : TypeId} {v v' : Value} {xs xs' : List Value} (h : Own w B e sz v n xs) (h' : Own w B' t sz' v' n' xs') (ht : e ≠ t) {k : Nat} (hk : v.ownBlock = some k) : v'.ownBlock ≠ some k := by
  rcases h'.2 with ⟨rfl, _⟩ | ⟨g', cap, cur, rfl, _, hg, _⟩
  · intro e; cases e
  · intro e
    simp only [Value.ownBlock, Option.some.injEq] at e
    subst e
    exact Own.ne (cs := cur) h hg ht hk
end
theorem Blk.drew {w : World} {g : Nat} {t : TypeId} {cs : Array Value} (h : Blk w g t cs) : Blk w.drew g t cs := h

namespace Ck
/-- The decoder's cells. -/
def cells (p l d z t : Int) (vt : Value) (ca : Bool) (tr : Int) (vf ev : Value) : Array Value :=
  #[.int .i64 p, .int .i64 l, .int .i64 d, .int .i64 z, .int .i64 t, vt, .bool ca, .int .i64 tr, vf, ev]
/-- The code's number of a place of the document. -/
def cp : Nat → Int
  | 0 => 0
  | 1 => 2
  | 2 => 1
  | 3 => 3
  | 4 => 4
  | 5 => 5
  | 6 => 6
  | 7 => 6
  | _ => 7
theorem cp_le {p : Nat} (h : p ≤ 7) : cp p ≠ 7 := by
  rcases p with _ | _ | _ | _ | _ | _ | _ | _ | p <;> first | decide | omega
theorem cp_8 : cp 8 = 7 := rfl
end Ck

namespace Ck
def hexI (c : UInt8) : Int := match hexv c with | none => -1 | some n => (n : Int)
theorem hexI_none {c : UInt8} (h : hexv c = none) : hexI c = -1 := by unfold hexI; rw [h]
theorem hexI_some {c : UInt8} {n : Nat} (h : hexv c = some n) : hexI c = (n : Int) := by unfold hexI; rw [h]
end Ck
set_option maxHeartbeats 2000000 in
theorem digit_any (c : UInt8) (w : World) :
    Calls Tryd.prog 63 #[.int .u8 (c.toNat : Int)] w fun e w' => e = .returned (.int .i64 (hexI c)) ∧ w' = w := by
  have key : (48 ≤ c.toNat ∧ c.toNat ≤ 57) ∨ (97 ≤ c.toNat ∧ c.toNat ≤ 102) ∨ (65 ≤ c.toNat ∧ c.toNat ≤ 70) ∨ c.toNat < 48 ∨ (57 < c.toNat ∧ c.toNat < 65) ∨ (70 < c.toNat ∧ c.toNat < 97) ∨ 102 < c.toNat := by omega
  have hc := c.toNat_lt
  rcases key with h | h | h | h | h | h | h
  · have e := Lib.hid (show hexv c = some (c.toNat - 48) by unfold hexv; rw [if_pos h])
    have e2 : hexI c = (c.toNat : Int) - 48 := by rw [hexI_some e.out]; omega
    obtain ⟨h1, h2⟩ := h
    rw [e2]; clear e2
    go_enter Tryd.func63, Tryd.ntmps63
    go_wp2
    go_ret
    exact ⟨by first | rfl | exact congrArg (fun z => Ending.returned (.int .i64 z)) (by omega), rfl⟩
  · have e := Lib.hid (show hexv c = some (c.toNat - 87) by unfold hexv; rw [if_neg (by omega), if_pos h])
    have e2 : hexI c = (c.toNat : Int) - 87 := by rw [hexI_some e.out]; omega
    obtain ⟨h1, h2⟩ := h
    rw [e2]; clear e2
    go_enter Tryd.func63, Tryd.ntmps63
    go_wp2
    go_ret
    exact ⟨by first | rfl | exact congrArg (fun z => Ending.returned (.int .i64 z)) (by omega), rfl⟩
  · have e := Lib.hid (show hexv c = some (c.toNat - 55) by unfold hexv; rw [if_neg (by omega), if_neg (by omega), if_pos h])
    have e2 : hexI c = (c.toNat : Int) - 55 := by rw [hexI_some e.out]; omega
    obtain ⟨h1, h2⟩ := h
    rw [e2]; clear e2
    go_enter Tryd.func63, Tryd.ntmps63
    go_wp2
    go_ret
    exact ⟨by first | rfl | exact congrArg (fun z => Ending.returned (.int .i64 z)) (by omega), rfl⟩
  · have e := Lib.hid (show hexv c = none by unfold hexv; rw [if_neg (by omega), if_neg (by omega), if_neg (by omega)])
    have e2 : hexI c = -1 := hexI_none e.out
    rw [e2]; clear e2
    go_enter Tryd.func63, Tryd.ntmps63
    go_wp2
    go_ret
    exact ⟨by first | rfl | exact congrArg (fun z => Ending.returned (.int .i64 z)) (by omega), rfl⟩
  · have e := Lib.hid (show hexv c = none by unfold hexv; rw [if_neg (by omega), if_neg (by omega), if_neg (by omega)])
    have e2 : hexI c = -1 := hexI_none e.out
    obtain ⟨h1, h2⟩ := h
    rw [e2]; clear e2
    go_enter Tryd.func63, Tryd.ntmps63
    go_wp2
    go_ret
    exact ⟨by first | rfl | exact congrArg (fun z => Ending.returned (.int .i64 z)) (by omega), rfl⟩
  · have e := Lib.hid (show hexv c = none by unfold hexv; rw [if_neg (by omega), if_neg (by omega), if_neg (by omega)])
    have e2 : hexI c = -1 := hexI_none e.out
    obtain ⟨h1, h2⟩ := h
    rw [e2]; clear e2
    go_enter Tryd.func63, Tryd.ntmps63
    go_wp2
    go_ret
    exact ⟨by first | rfl | exact congrArg (fun z => Ending.returned (.int .i64 z)) (by omega), rfl⟩
  · have e := Lib.hid (show hexv c = none by unfold hexv; rw [if_neg (by omega), if_neg (by omega), if_neg (by omega)])
    have e2 : hexI c = -1 := hexI_none e.out
    rw [e2]; clear e2
    go_enter Tryd.func63, Tryd.ntmps63
    go_wp2
    go_ret
    exact ⟨by first | rfl | exact congrArg (fun z => Ending.returned (.int .i64 z)) (by omega), rfl⟩
set_option maxHeartbeats 2000000 in
theorem hex_any (c : UInt8) (w : World) :
    Calls Tryd.prog 65 #[.int .u8 (c.toNat : Int)] w fun e w' => e = .returned (.int .i64 (hexI c)) ∧ w' = w := by
  have key : (48 ≤ c.toNat ∧ c.toNat ≤ 57) ∨ (97 ≤ c.toNat ∧ c.toNat ≤ 102) ∨ (65 ≤ c.toNat ∧ c.toNat ≤ 70) ∨ c.toNat < 48 ∨ (57 < c.toNat ∧ c.toNat < 65) ∨ (70 < c.toNat ∧ c.toNat < 97) ∨ 102 < c.toNat := by omega
  have hc := c.toNat_lt
  rcases key with h | h | h | h | h | h | h
  · have e := Lib.hid (show hexv c = some (c.toNat - 48) by unfold hexv; rw [if_pos h])
    have e2 : hexI c = (c.toNat : Int) - 48 := by rw [hexI_some e.out]; omega
    obtain ⟨h1, h2⟩ := h
    rw [e2]; clear e2
    go_enter Tryd.func65, Tryd.ntmps65
    go_wp2
    go_ret
    exact ⟨by first | rfl | exact congrArg (fun z => Ending.returned (.int .i64 z)) (by omega), rfl⟩
  · have e := Lib.hid (show hexv c = some (c.toNat - 87) by unfold hexv; rw [if_neg (by omega), if_pos h])
    have e2 : hexI c = (c.toNat : Int) - 87 := by rw [hexI_some e.out]; omega
    obtain ⟨h1, h2⟩ := h
    rw [e2]; clear e2
    go_enter Tryd.func65, Tryd.ntmps65
    go_wp2
    go_ret
    exact ⟨by first | rfl | exact congrArg (fun z => Ending.returned (.int .i64 z)) (by omega), rfl⟩
  · have e := Lib.hid (show hexv c = some (c.toNat - 55) by unfold hexv; rw [if_neg (by omega), if_neg (by omega), if_pos h])
    have e2 : hexI c = (c.toNat : Int) - 55 := by rw [hexI_some e.out]; omega
    obtain ⟨h1, h2⟩ := h
    rw [e2]; clear e2
    go_enter Tryd.func65, Tryd.ntmps65
    go_wp2
    go_ret
    exact ⟨by first | rfl | exact congrArg (fun z => Ending.returned (.int .i64 z)) (by omega), rfl⟩
  · have e := Lib.hid (show hexv c = none by unfold hexv; rw [if_neg (by omega), if_neg (by omega), if_neg (by omega)])
    have e2 : hexI c = -1 := hexI_none e.out
    rw [e2]; clear e2
    go_enter Tryd.func65, Tryd.ntmps65
    go_wp2
    go_ret
    exact ⟨by first | rfl | exact congrArg (fun z => Ending.returned (.int .i64 z)) (by omega), rfl⟩
  · have e := Lib.hid (show hexv c = none by unfold hexv; rw [if_neg (by omega), if_neg (by omega), if_neg (by omega)])
    have e2 : hexI c = -1 := hexI_none e.out
    obtain ⟨h1, h2⟩ := h
    rw [e2]; clear e2
    go_enter Tryd.func65, Tryd.ntmps65
    go_wp2
    go_ret
    exact ⟨by first | rfl | exact congrArg (fun z => Ending.returned (.int .i64 z)) (by omega), rfl⟩
  · have e := Lib.hid (show hexv c = none by unfold hexv; rw [if_neg (by omega), if_neg (by omega), if_neg (by omega)])
    have e2 : hexI c = -1 := hexI_none e.out
    obtain ⟨h1, h2⟩ := h
    rw [e2]; clear e2
    go_enter Tryd.func65, Tryd.ntmps65
    go_wp2
    go_ret
    exact ⟨by first | rfl | exact congrArg (fun z => Ending.returned (.int .i64 z)) (by omega), rfl⟩
  · have e := Lib.hid (show hexv c = none by unfold hexv; rw [if_neg (by omega), if_neg (by omega), if_neg (by omega)])
    have e2 : hexI c = -1 := hexI_none e.out
    rw [e2]; clear e2
    go_enter Tryd.func65, Tryd.ntmps65
    go_wp2
    go_ret
    exact ⟨by first | rfl | exact congrArg (fun z => Ending.returned (.int .i64 z)) (by omega), rfl⟩

set_option maxHeartbeats 1000000 in
theorem ckcontrol_any (c : UInt8) (w : World) :
    Calls Tryd.prog 62 #[.int .u8 (c.toNat : Int)] w fun e w' => e = .returned (.bool (ctl c)) ∧ w' = w := by
  have key : c.toNat < 32 ∧ c.toNat ≠ 9 ∨ c.toNat = 9 ∨ c.toNat = 127 ∨ (32 ≤ c.toNat ∧ c.toNat ≠ 127) := by omega
  rcases key with h | h | h | h
  · have e : ctl c = true := by unfold ctl ctlN; simp [h.1, h.2]
    rw [e]; clear e
    have h0 := h.1
    have h1 : ((c.toNat : Int) != 9) = true := by rw [bne_iff_ne]; have := h.2; omega
    clear h
    go_enter Tryd.func62, Tryd.ntmps62
    go_wp2
    go_ret
    exact ⟨rfl, rfl⟩
  · have e : ctl c = false := by unfold ctl ctlN; simp [h]
    rw [e]; clear e
    have h1 : (c.toNat : Int) = 9 := by omega
    go_enter Tryd.func62, Tryd.ntmps62
    go_wp2
    go_ret
    exact ⟨rfl, rfl⟩
  · have e : ctl c = true := by unfold ctl ctlN; simp [h]
    rw [e]; clear e
    have h1 := beq_cast_false (show c.toNat ≠ 9 by omega)
    have h2 := beq_cast_true h
    go_enter Tryd.func62, Tryd.ntmps62
    go_wp2
    go_ret
    exact ⟨rfl, rfl⟩
  · have e : ctl c = false := by unfold ctl ctlN; simp; omega
    rw [e]; clear e
    have h0 := h.1
    have h1 := beq_cast_false h.2
    have h2 : ((c.toNat : Int) == 127) = false := h1
    go_enter Tryd.func62, Tryd.ntmps62
    go_wp2
    go_ret
    exact ⟨rfl, rfl⟩

set_option maxHeartbeats 4000000 in
theorem forbidden_any (n : List UInt8) (w : World) :
    Calls Tryd.prog 40 #[.string (str n)] w fun e w' => e = .returned (.bool (forb n)) ∧ w' = w := by
  have no : ∀ x : List UInt8, n ≠ x → ((str n).toList == x) = false := fun x h => by rw [str_toList]; exact beq_eq_false_iff_ne.2 h
  by_cases h0 : n = [97, 117, 116, 104, 111, 114, 105, 122, 97, 116, 105, 111, 110]
  · have e : forb n = true := by rw [h0]; decide
    have q0 : ((str n).toList == [97, 117, 116, 104, 111, 114, 105, 122, 97, 116, 105, 111, 110]) = true := by rw [str_toList, h0]; decide
    rw [e]
    generalize str n = s at *
    clear e no h0
    go_enter Tryd.func40, Tryd.ntmps40
    go_wp2
    go_ret
    exact ⟨rfl, rfl⟩
  have q0 : ((str n).toList == [97, 117, 116, 104, 111, 114, 105, 122, 97, 116, 105, 111, 110]) = false := no _ h0
  by_cases h1 : n = [99, 97, 99, 104, 101, 45, 99, 111, 110, 116, 114, 111, 108]
  · have e : forb n = true := by rw [h1]; decide
    have q1 : ((str n).toList == [99, 97, 99, 104, 101, 45, 99, 111, 110, 116, 114, 111, 108]) = true := by rw [str_toList, h1]; decide
    rw [e]
    generalize str n = s at *
    clear e no h1
    go_enter Tryd.func40, Tryd.ntmps40
    go_wp2
    go_ret
    exact ⟨rfl, rfl⟩
  have q1 : ((str n).toList == [99, 97, 99, 104, 101, 45, 99, 111, 110, 116, 114, 111, 108]) = false := no _ h1
  by_cases h2 : n = [99, 111, 110, 116, 101, 110, 116, 45, 108, 101, 110, 103, 116, 104]
  · have e : forb n = true := by rw [h2]; decide
    have q2 : ((str n).toList == [99, 111, 110, 116, 101, 110, 116, 45, 108, 101, 110, 103, 116, 104]) = true := by rw [str_toList, h2]; decide
    rw [e]
    generalize str n = s at *
    clear e no h2
    go_enter Tryd.func40, Tryd.ntmps40
    go_wp2
    go_ret
    exact ⟨rfl, rfl⟩
  have q2 : ((str n).toList == [99, 111, 110, 116, 101, 110, 116, 45, 108, 101, 110, 103, 116, 104]) = false := no _ h2
  by_cases h3 : n = [104, 111, 115, 116]
  · have e : forb n = true := by rw [h3]; decide
    have q3 : ((str n).toList == [104, 111, 115, 116]) = true := by rw [str_toList, h3]; decide
    rw [e]
    generalize str n = s at *
    clear e no h3
    go_enter Tryd.func40, Tryd.ntmps40
    go_wp2
    go_ret
    exact ⟨rfl, rfl⟩
  have q3 : ((str n).toList == [104, 111, 115, 116]) = false := no _ h3
  by_cases h4 : n = [115, 101, 116, 45, 99, 111, 111, 107, 105, 101]
  · have e : forb n = true := by rw [h4]; decide
    have q4 : ((str n).toList == [115, 101, 116, 45, 99, 111, 111, 107, 105, 101]) = true := by rw [str_toList, h4]; decide
    rw [e]
    generalize str n = s at *
    clear e no h4
    go_enter Tryd.func40, Tryd.ntmps40
    go_wp2
    go_ret
    exact ⟨rfl, rfl⟩
  have q4 : ((str n).toList == [115, 101, 116, 45, 99, 111, 111, 107, 105, 101]) = false := no _ h4
  by_cases h5 : n = [116, 114, 97, 105, 108, 101, 114]
  · have e : forb n = true := by rw [h5]; decide
    have q5 : ((str n).toList == [116, 114, 97, 105, 108, 101, 114]) = true := by rw [str_toList, h5]; decide
    rw [e]
    generalize str n = s at *
    clear e no h5
    go_enter Tryd.func40, Tryd.ntmps40
    go_wp2
    go_ret
    exact ⟨rfl, rfl⟩
  have q5 : ((str n).toList == [116, 114, 97, 105, 108, 101, 114]) = false := no _ h5
  by_cases h6 : n = [116, 114, 97, 110, 115, 102, 101, 114, 45, 101, 110, 99, 111, 100, 105, 110, 103]
  · have e : forb n = true := by rw [h6]; decide
    have q6 : ((str n).toList == [116, 114, 97, 110, 115, 102, 101, 114, 45, 101, 110, 99, 111, 100, 105, 110, 103]) = true := by rw [str_toList, h6]; decide
    rw [e]
    generalize str n = s at *
    clear e no h6
    go_enter Tryd.func40, Tryd.ntmps40
    go_wp2
    go_ret
    exact ⟨rfl, rfl⟩
  have q6 : ((str n).toList == [116, 114, 97, 110, 115, 102, 101, 114, 45, 101, 110, 99, 111, 100, 105, 110, 103]) = false := no _ h6
  have e : forb n = false := by
    unfold forb
    rw [decide_eq_false_iff_not]
    intro hm
    simp only [forbiddens, List.mem_cons, List.not_mem_nil, or_false] at hm
    rcases hm with h | h | h | h | h | h | h
    · exact h0 h
    · exact h1 h
    · exact h2 h
    · exact h3 h
    · exact h4 h
    · exact h5 h
    · exact h6 h
  rw [e]
  generalize str n = s at *
  clear e no h0 h1 h2 h3 h4 h5 h6
  go_enter Tryd.func40, Tryd.ntmps40
  go_wp2
  go_ret
  exact ⟨rfl, rfl⟩
end Go.Proofs.YtbegpdhkjfdjbaaDoor
