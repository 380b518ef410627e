import Derived.Test.YtibcbaghgpemfaaGreatDoorHDRead
import Derived.Test.YtibcbaghgpemfaaGreatDoorGWr
import Derived.Deep.RegionHeld3
namespace Go.Proofs.YtibcbaghgpemfaaGreatDoor
open Go.RowKit Syn Fr Hd Ck
namespace Hd
def rrS0 (b : List UInt8) : Int:=if rrE b = 0 then rrS b else 0
def rrL0 (b : List UInt8) : List (List UInt8 × List UInt8):=if rrE b = 0 then rrL b else []
def rrN0 (b : List UInt8) : Int:=if rrE b = 0 then endF b else 0
def rqM0 (b : List UInt8) : List UInt8:=if rqE b = 0 then rqM b else []
def rqT0 (b : List UInt8) : List UInt8:=if rqE b = 0 then rqT b else []
def rqL0 (b : List UInt8) : List (List UInt8 × List UInt8):=if rqE b = 0 then rqL b else []
def rqN0 (b : List UInt8) : Int:=if rqE b = 0 then endF b else 0
theorem RrO.form {w w' : World} {b : List UInt8} {e : Ending} (h : RrO w b e w') : ∃ o,e = .returned (.tuple #[.agg #[.int .i64 (rrS0 b),o],.int .i64 (rrN0 b),errV (rrE b)]) ∧ Own w' w.heap.size 26 2 o (rrL0 b).length (prs (rrL0 b)) ∧ Below w.heap.size w w':=by
 obtain ⟨⟨h0,h1⟩ | ⟨h0,o,h1,h2⟩,hb⟩:=h
 ·refine ⟨.slice none 0 0,?_,?_,hb⟩
  ·unfold rrS0 rrN0 errV
   rw [if_neg h0,if_neg h0,if_neg h0]; exact h1
  ·unfold rrL0; rw [if_neg h0]; exact own_nil _ _ _ _
 ·refine ⟨o,?_,?_,hb⟩
  ·unfold rrS0 rrN0 errV
   rw [if_pos h0,if_pos h0,if_pos h0]; exact h1
  ·unfold rrL0; rw [if_pos h0]; exact h2
theorem DrR.form {w w' : World} {b : List UInt8} {e : Ending} (h : DrR w b e w') : ∃ o,e = .returned (.tuple #[.agg #[.int .i64 (rrS0 b),o],.int .i64 (rrN0 b),.int .i64 (rrE b)]) ∧ Own w' w.heap.size 170 2 o (rrL0 b).length (prs (rrL0 b)) ∧ Below w.heap.size w w':=by
 obtain ⟨⟨h0,h1⟩ | ⟨h0,o,h1,h2⟩,hb⟩:=h
 ·refine ⟨.slice none 0 0,?_,?_,hb⟩
  ·unfold rrS0 rrN0
   rw [if_neg h0,if_neg h0]; exact h1
  ·unfold rrL0; rw [if_neg h0]; exact own_nil _ _ _ _
 ·refine ⟨o,?_,?_,hb⟩
  ·unfold rrS0 rrN0
   rw [if_pos h0,if_pos h0,h0]; exact h1
  ·unfold rrL0; rw [if_pos h0]; exact h2
theorem RqO.form {w w' : World} {b : List UInt8} {e : Ending} (h : RqO w b e w') : ∃ o,e = .returned (.tuple #[.agg #[.string (str (rqM0 b)),.string (str (rqT0 b)),o],.int .i64 (rqN0 b),errV (rqE b)]) ∧ Own w' w.heap.size 26 2 o (rqL0 b).length (prs (rqL0 b)) ∧ Below w.heap.size w w':=by
 obtain ⟨⟨h0,h1⟩ | ⟨h0,o,h1,h2⟩,hb⟩:=h
 ·refine ⟨.slice none 0 0,?_,?_,hb⟩
  ·unfold rqM0 rqT0 rqN0 errV
   rw [if_neg h0,if_neg h0,if_neg h0,if_neg h0]; exact h1
  ·unfold rqL0; rw [if_neg h0]; exact own_nil _ _ _ _
 ·refine ⟨o,?_,?_,hb⟩
  ·unfold rqM0 rqT0 rqN0 errV
   rw [if_pos h0,if_pos h0,if_pos h0,if_pos h0]; exact h1
  ·unfold rqL0; rw [if_pos h0]; exact h2
theorem DqR.form {w w' : World} {b : List UInt8} {e : Ending} (h : DqR w b e w') : ∃ o,e = .returned (.tuple #[.agg #[.string (str (rqM0 b)),.string (str (rqT0 b)),o],.int .i64 (rqN0 b),.int .i64 (rqE b)]) ∧ Own w' w.heap.size 170 2 o (rqL0 b).length (prs (rqL0 b)) ∧ Below w.heap.size w w':=by
 obtain ⟨⟨h0,h1⟩ | ⟨h0,o,h1,h2⟩,hb⟩:=h
 ·refine ⟨.slice none 0 0,?_,?_,hb⟩
  ·unfold rqM0 rqT0 rqN0
   rw [if_neg h0,if_neg h0,if_neg h0]; exact h1
  ·unfold rqL0; rw [if_neg h0]; exact own_nil _ _ _ _
 ·refine ⟨o,?_,?_,hb⟩
  ·unfold rqM0 rqT0 rqN0
   rw [if_pos h0,if_pos h0,if_pos h0,h0]; exact h1
  ·unfold rqL0; rw [if_pos h0]; exact h2
end Hd
end Go.Proofs.YtibcbaghgpemfaaGreatDoor
