/-
  What is kept while blocks of one's own turn.
-/
import Derived.Test.YtpfpjcfacbfjaaaGreatDoorGLow
namespace Go.Proofs.YtpfpjcfacbfjaaaGreatDoor
open Go.RowKit

/-- From w to w' only blocks of F may have turned, and blocks may have come. -/
structure Kp (F : Nat → Prop) (w w' : World) : Prop where
  os : w'.os = w.os
  tape : w'.tape = w.tape
  output : w'.output = w.output
  size : w.heap.size ≤ w'.heap.size
  block : ∀ k, k < w.heap.size → ¬ F k → w'.heap[k]? = w.heap[k]?
section
variable {F G : Nat → Prop} {a w w' : World}
theorem Kp.refl (F : Nat → Prop) (w : World) : Kp F w w := ⟨rfl, rfl, rfl, Nat.le_refl _, fun _ _ _ => rfl⟩
theorem Kp.next (h : Kp F a w) (hG : ∀ k, k < a.heap.size → G k → F k) (h2 : Kp G w w') : Kp F a w' :=
  ⟨h2.os.trans h.os, h2.tape.trans h.tape, h2.output.trans h.output, Nat.le_trans h.size h2.size,
    fun k hk hF => (h2.block k (Nat.lt_of_lt_of_le hk h.size) (fun hg => hF (hG k hk hg))).trans (h.block k hk hF)⟩
theorem Kp.trans (h : Kp F a w) (h2 : Kp F w w') : Kp F a w' := h.next (fun _ _ h => h) h2
theorem Kp.mono (h : Kp G a w) (hG : ∀ k, k < a.heap.size → G k → F k) : Kp F a w := (Kp.refl F a).next hG h
theorem Kp.drew (h : Kp F a w) : Kp F a w.drew := ⟨h.os, h.tape, h.output, h.size, h.block⟩
theorem Kp.alloc (h : Kp F a w) (o : Obj) : Kp F a (w.alloc o) :=
  ⟨h.os, h.tape, h.output, Nat.le_trans h.size (by simp), fun k hk hF => (Below.heap_alloc w o k (Nat.lt_of_lt_of_le hk h.size)).trans (h.block k hk hF)⟩
theorem Kp.set_ (h : Kp F a w) {g : Nat} (hg : g < a.heap.size → F g) (i : Nat) (u : Value) : Kp F a (w.setCell ⟨g, i, none⟩ u) :=
  ⟨h.os, h.tape, h.output, by rw [size_setCell]; exact h.size, fun k hk hF => (Below.heap_setCell w ⟨g, i, none⟩ u k (by rintro rfl; exact hF (hg hk))).trans (h.block k hk hF)⟩
theorem Kp.below (h : Kp F a w) (hb : Below w.heap.size w w') : Kp F a w' :=
  ⟨hb.os.trans h.os, hb.tape.trans h.tape, hb.output.trans h.output, Nat.le_trans h.size hb.size,
    fun k hk hF => (hb.block k (Nat.lt_of_lt_of_le hk h.size)).trans (h.block k hk hF)⟩
theorem Kp.grown (h : Kp F a w) {row : Option Nat} (hg : w.grownBy w' row) (hr : ∀ k, row = some k → k < a.heap.size → F k) : Kp F a w' :=
  ⟨hg.os.trans h.os, hg.tape.trans h.tape, hg.output.trans h.output, Nat.le_trans h.size hg.size,
    fun k hk hF => (hg.block k (Nat.lt_of_lt_of_le hk h.size) (fun e => hF (hr k e.symm hk))).trans (h.block k hk hF)⟩
theorem Kp.toBelow (h : Kp F a w) {B : Nat} (hB : B ≤ a.heap.size) (hF : ∀ k, F k → B ≤ k) : Below B a w :=
  ⟨h.os, h.tape, h.output, h.size, fun k hk => h.block k (by omega) (fun hf => by have := hF k hf; omega)⟩
theorem Kp.cell (h : Kp F a w) {p : Addr} (hp : p.block < a.heap.size) (hF : ¬ F p.block) : w.cell? p = a.cell? p := World.cell?_of_block (h.block p.block hp hF)
/-- Not a block of F. -/
def Off (F : Nat → Prop) (v : Value) : Prop := ∀ k, v.ownBlock = some k → ¬ F k
theorem Blk.kp {g : Nat} {t : TypeId} {cs : Array Value} (h : Blk a g t cs) (hg : ¬ F g) (hk : Kp F a w) : Blk w g t cs := (hk.block g h.lt hg).trans h
theorem Own.kp {B sz n : Nat} {e : TypeId} {v : Value} {xs : List Value} (h : Own a B e sz v n xs) (hF : Off F v) (hk : Kp F a w) : Own w B e sz v n xs := by
  obtain ⟨hl, h⟩ := h
  refine ⟨hl, ?_⟩
  rcases h with h | ⟨g, cap, cur, e1, h1, hg, h2⟩
  · exact .inl h
  · refine .inr ⟨g, cap, cur, e1, h1, ?_, h2⟩
    have hlt : g < a.heap.size := by
      rcases Nat.lt_or_ge g a.heap.size with h | h
      · exact h
      · rw [Array.getElem?_eq_none h] at hg; cases hg
    rw [hk.block g hlt (hF g (by rw [e1]; rfl))]; exact hg
theorem Rd.kp {sz n : Nat} {v : Value} {xs : List Value} (h : Rd a sz v n xs) (hF : Off F v) (hk : Kp F a w) : Rd w sz v n xs := by
  obtain ⟨A, cap, e, hc, hl, h⟩ := h
  refine ⟨A, cap, e, hc, hl, fun hn => ?_⟩
  obtain ⟨b, off, e1, hlt, hx⟩ := h hn
  exact ⟨b, off, e1, Nat.lt_of_lt_of_le hlt hk.size, fun j u hu => by rw [hk.cell (p := ⟨b, off + j, none⟩) hlt (hF b (by rw [e, e1]; rfl))]; exact hx j u hu⟩
theorem Own.base {B B' sz n : Nat} {e : TypeId} {v : Value} {xs : List Value} (h : Own w B e sz v n xs) (hB : B' ≤ B) : Own w B' e sz v n xs := by
  obtain ⟨hl, h⟩ := h
  refine ⟨hl, ?_⟩
  rcases h with h | ⟨g, cap, cur, e1, h1, h2⟩
  · exact .inl h
  · exact .inr ⟨g, cap, cur, e1, Nat.le_trans hB h1, h2⟩
theorem Own.lt {B sz n : Nat} {e : TypeId} {v : Value} {xs : List Value} (h : Own w B e sz v n xs) {k : Nat} (hk : v.ownBlock = some k) : k < w.heap.size := (World.ownsRow.lt h k hk).2
theorem Own.ne {B sz n g : Nat} {e t : TypeId} {v : Value} {xs : List Value} {cs : Array Value} (h : Own w B e sz v n xs) (hb : Blk w g t cs) (ht : e ≠ t) : v.ownBlock ≠ some g := by
  intro hk
  rcases h.2 with ⟨rfl, _⟩ | ⟨g', cap, cur, rfl, _, hg, _⟩
  · cases hk
  · simp only [Value.ownBlock, Option.some.injEq] at hk
    subst hk
    unfold Blk at hb
    rw [hb] at hg
    injection hg with hg
    injection hg with _ h2 _
    exact ht h2.symm
theorem Own.apart {B B' sz sz' n n' : Nat} {e t : TypeId} {v v' : Value} {xs xs' : List Value} (h : Own w B e sz v n xs) (h' : Own w B' t sz' v' n' xs') (ht : e ≠ t) {k : Nat} (hk : v.ownBlock = some k) : v'.ownBlock ≠ some k := by
  rcases h'.2 with ⟨rfl, _⟩ | ⟨g', cap, cur, rfl, _, hg, _⟩
  · intro e; cases e
  · intro e
    simp only [Value.ownBlock, Option.some.injEq] at e
    subst e
    exact Own.ne (cs := cur) h hg ht hk
end
theorem Blk.drew {w : World} {g : Nat} {t : TypeId} {cs : Array Value} (h : Blk w g t cs) : Blk w.drew g t cs := h

end Go.Proofs.YtpfpjcfacbfjaaaGreatDoor
