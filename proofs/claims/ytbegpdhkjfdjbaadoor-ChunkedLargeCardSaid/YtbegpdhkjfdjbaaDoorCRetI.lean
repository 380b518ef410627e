/-
  Layer 7: a decoder that is fed byte by byte.
-/
import Derived.Test.YtbegpdhkjfdjbaaDoorCRetS
import Derived.Test.YtbegpdhkjfdjbaaDoorCGrw
import Derived.Test.YtbegpdhkjfdjbaaDoorCCuts
namespace Go.Proofs.YtbegpdhkjfdjbaaDoor
open Go.RowKit Syn Ck

namespace Ck
/-- What stands in a round: the decoder at state s, the data so far. -/
structure RetI (w0 : World) (g : Nat) (s : St) (out : List UInt8) (got : Value) (F : Nat → Prop) (w : World) : Prop where
  hgot : Own w w0.heap.size 5 1 got out.length (u8s out)
  off : Off F got
  dec : Decv w g F s (errV s.bad)
  fr : ∀ j, F j → j = g ∨ w0.heap.size ≤ j
  kp : Kp (· = g) w0 w
  lt : g < w0.heap.size
section
variable {w0 w w' : World} {g : Nat} {s : St} {out out2 : List UInt8} {got got' : Value} {F : Nat → Prop} {p : List UInt8} {e : Ending}
theorem RetI.init (hd : Decv w0 g (· = g) s (errV s.bad)) : RetI w0 g s [] (.slice none 0 0) (· = g) w0 :=
  ⟨own_nil _ _ _ _, fun j hj => (by cases hj), hd, fun j e => .inl e, Kp.refl _ _, hd.2.1 g rfl⟩
theorem RetI.write (h : RetI w0 g s out got F w) (hw : WriteR w g F s p e w') :
    ∃ vb F', e = .returned (.tuple #[vb, .int .i64 ((wr s p).2.2 : Int), errV (wr s p).1.bad]) ∧ Own w' w.heap.size 5 1 vb (wr s p).2.1.length (u8s (wr s p).2.1) ∧ Off F' vb ∧ RetI w0 g (wr s p).1 out got F' w' := by
  obtain ⟨vb, F', h1, h2, h3, h4, h5, h6⟩ := hw
  have hsz := h.kp.size
  refine ⟨vb, F', h1, h2, h3, h.hgot.kp h.off h6, fun j hj hF => ?_, h4, fun j hF => ?_, h.kp.next (fun k hk hF => ?_) h6, h.lt⟩
  · rcases h5 j hF with h7 | h7
    · exact h.off j hj h7
    · have := h.hgot.lt hj; omega
  · rcases h5 j hF with h7 | h7
    · exact h.fr j h7
    · right; omega
  · rcases h.fr k hF with h7 | h7
    · exact h7
    · omega
theorem RetI.grow (h : RetI w0 g s out got F w) (hg : w.grownBy w' got.ownBlock) (ho : Own w' w0.heap.size 5 1 got' (out ++ out2).length (u8s (out ++ out2))) (hat : got'.ownBlock = got.ownBlock ∨ got'.ownBlock = some w.heap.size) :
    RetI w0 g s (out ++ out2) got' F w' := by
  have hk := (Kp.refl (fun j => got.ownBlock = some j) w).grown hg (fun j hj _ => hj)
  have hgB : ∀ j, got.ownBlock = some j → w0.heap.size ≤ j := fun j hj => (World.ownsRow.lt h.hgot j hj).1
  refine ⟨ho, fun j hj hF => ?_, h.dec.kp hk (fun j hF e => h.off j e hF), h.fr, h.kp.next (fun k hk2 e => ?_) hk, h.lt⟩
  · rcases hat with h1 | h1
    · exact h.off j (by rw [← h1]; exact hj) hF
    · rw [h1] at hj; injection hj with hj; have := h.dec.2.1 j hF; omega
  · have := hgB k e; omega
theorem RetI.step (h : RetI w0 g s out got F w) (hb : Below w.heap.size w w') : RetI w0 g s out got F w' :=
  ⟨own_below h.hgot hb, h.off, h.dec.below hb, h.fr, h.kp.below hb, h.lt⟩
theorem RetI.below (h : RetI w0 g s out got F w) {W0 : World} (hb : Below W0.heap.size W0 w0) (hg : W0.heap.size ≤ g) : Below W0.heap.size W0 w :=
  hb.trans (h.kp.toBelow hb.size (fun k e => by subst e; exact hg))
end
theorem list_split {B : List UInt8} {i : Nat} (h : i < B.length) : B = B.take i ++ ([B[i]] ++ B.drop (i + 1)) := by
  conv => lhs; rw [← List.take_append_drop i B, List.drop_eq_getElem_cons h]
  rfl
/-- One byte more of what is taken whole. -/
theorem feed {B : List UInt8} {sE : St} {D : List UInt8} (h : wr zero B = (sE, D, B.length)) {i : Nat} (hi : i < B.length) {s : St} {out : List UInt8} (hs : wr zero (B.take i) = (s, out, i)) :
    s.bad = 0 ∧ s.place ≠ 8 ∧ ∃ s2 o2, wr s [B[i]] = (s2, o2, 1) ∧ s2.bad = 0 ∧ wr zero (B.take (i + 1)) = (s2, out ++ o2, i + 1) := by
  have hsp := list_split hi
  have hl : (B.take i).length = i := by rw [List.length_take]; omega
  have h1 := wr_whole (s := zero) (a := B.take i) (b := [B[i]] ++ B.drop (i + 1)) (by rw [← hsp, h, hl, List.length_append, List.length_singleton, List.length_drop]; show B.length = _; omega)
  obtain ⟨h2, h3⟩ := h1.2.2 (List.cons_ne_nil _ _)
  rw [hs] at h2 h3
  simp only at h2 h3
  have hgo : ¬ (s.bad ≠ 0 ∨ s.place = 8) := by rintro (e | e); exact e h2; exact h3 e
  refine ⟨h2, h3, ?_⟩
  have h4 := h1.2.1
  rw [hs] at h4
  have h5 := wr_whole (s := s) (a := [B[i]]) (b := B.drop (i + 1)) (by rw [h4]; simp; omega)
  obtain ⟨⟨s2, o2, n2⟩, hw⟩ : ∃ r, wr s [B[i]] = r := ⟨_, rfl⟩
  have hn := h5.1
  rw [hw] at hn
  simp only [List.length_singleton] at hn
  subst hn
  refine ⟨s2, o2, hw, ?_, ?_⟩
  · by_cases hb : (step s B[i]).bad ≠ 0
    · rw [wr_bad hgo hb] at hw
      simp at hw
    · rw [wr_go hgo hb] at hw
      simp only [wr_nil, Prod.mk.injEq] at hw
      rw [← hw.1]
      omega
  · rw [List.take_succ_eq_append_getElem hi, wr_append, hs]
    simp only
    rw [hw]
end Ck
end Go.Proofs.YtbegpdhkjfdjbaaDoor
