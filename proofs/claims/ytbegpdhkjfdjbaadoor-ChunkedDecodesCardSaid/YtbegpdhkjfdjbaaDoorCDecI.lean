/-
  Layer 7: the decoder and the document's state side by side.
-/
import Derived.Test.YtbegpdhkjfdjbaaDoorCRWrite
namespace Go.Proofs.YtbegpdhkjfdjbaaDoor
open Go.RowKit Syn Ck

namespace Ck
/-- What stands in a round of ChunkedDecodes: the decoder at sd, the document's state s in block gs. -/
structure DecI (W0 : World) (gd gs : Nat) (sd s : St) (F : Nat → Prop) (A1 : Option Addr) (c1 : Nat) (w : World) : Prop where
  dec : Decv w gd F sd (errV sd.bad)
  st : Blk w gs 29 (svC s (.slice A1 s.fields.length c1))
  rd : Rd w 2 (.slice A1 s.fields.length c1) s.fields.length (prs s.fields)
  offF : 0 < s.fields.length → Off F (.slice A1 s.fields.length c1)
  offS : 0 < s.fields.length → Off (· = gs) (.slice A1 s.fields.length c1)
  gsF : ¬ F gs
  old : ∀ j, F j → W0.heap.size ≤ j
  gsB : W0.heap.size ≤ gs
  below : Below W0.heap.size W0 w
section
variable {W0 w w' : World} {gd gs : Nat} {sd s : St} {F G : Nat → Prop} {A1 : Option Addr} {c1 : Nat}
/-- Other blocks turn. -/
theorem DecI.kp (h : DecI W0 gd gs sd s F A1 c1 w) (hk : Kp G w w') (hF : ∀ j, F j → ¬ G j) (hS : ¬ G gs) (hA : 0 < s.fields.length → Off G (.slice A1 s.fields.length c1)) (hB : ∀ j, G j → W0.heap.size ≤ j) : DecI W0 gd gs sd s F A1 c1 w' :=
  ⟨h.dec.kp hk hF, h.st.kp hS hk, Rd.kp0 h.rd hA hk, h.offF, h.offS, h.gsF, h.old, h.gsB, h.below.trans (hk.toBelow h.below.size hB)⟩
theorem DecI.bel (h : DecI W0 gd gs sd s F A1 c1 w) (hb : Below w.heap.size w w') : DecI W0 gd gs sd s F A1 c1 w' :=
  h.kp (G := fun _ => False) (Kp.below (Kp.refl _ _) hb) (fun _ _ e => e) (fun e => e) (fun _ _ _ e => e) (fun _ e => e.elim)
/-- The decoder takes bytes. -/
theorem DecI.write {p : List UInt8} {e : Ending} (h : DecI W0 gd gs sd s F A1 c1 w) (hw : WriteR w gd F sd p e w') :
    ∃ vb F', e = .returned (.tuple #[vb, .int .i64 ((Ck.wr sd p).2.2 : Int), errV (Ck.wr sd p).1.bad]) ∧ Own w' w.heap.size 5 1 vb (Ck.wr sd p).2.1.length (u8s (Ck.wr sd p).2.1) ∧ Off F' vb ∧
      (∀ k, F' k → F k ∨ w.heap.size ≤ k) ∧ Kp F w w' ∧ DecI W0 gd gs (Ck.wr sd p).1 s F' A1 c1 w' := by
  obtain ⟨vb, F', h1, h2, h3, h4, h5, h6⟩ := hw
  have hsz := h.below.size
  refine ⟨vb, F', h1, h2, h3, h5, h6, h4, h.st.kp h.gsF h6, Rd.kp0 h.rd h.offF h6, fun h0 j hj e => ?_, h.offS, fun e => ?_, fun j e => ?_, h.gsB, h.below.trans (h6.toBelow hsz h.old)⟩
  · rcases h5 j e with e | e
    · exact h.offF h0 j hj e
    · have := Rd.lt0 h.rd h0 j hj; omega
  · rcases h5 gs e with e | e
    · exact h.gsF e
    · have := h.st.lt; omega
  · rcases h5 j e with e | e
    · exact h.old j e
    · omega
end
end Ck
end Go.Proofs.YtbegpdhkjfdjbaaDoor
