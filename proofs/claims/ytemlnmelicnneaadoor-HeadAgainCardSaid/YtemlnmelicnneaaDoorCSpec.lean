/-
  Layer 7: the machine that takes a chunked body byte by byte. Plain Lean.
-/
import Derived.Test.YtemlnmelicnneaaDoorSpec
import Derived.Test.YtemlnmelicnneaaDoorGLow
namespace Go.Proofs.YtemlnmelicnneaaDoor
open Go.RowKit Syn

namespace Ck
structure St where
  place : Nat
  digits : Nat
  number : Nat
  line : Nat
  total : Nat
  left : Nat
  sect : Nat
  text : List UInt8
  fields : List (List UInt8 × List UInt8)
  bad : Nat
def zero : St := ⟨0, 0, 0, 0, 0, 0, 0, [], [], 0⟩
/-- A hexadecimal digit's value. -/
def hexv (c : UInt8) : Option Nat :=
  if 48 ≤ c.toNat ∧ c.toNat ≤ 57 then some (c.toNat - 48)
  else if 97 ≤ c.toNat ∧ c.toNat ≤ 102 then some (c.toNat - 87)
  else if 65 ≤ c.toNat ∧ c.toNat ≤ 70 then some (c.toNat - 55)
  else none
theorem hexv_lt {c : UInt8} {n : Nat} (h : hexv c = some n) : n < 16 := by
  unfold hexv at h
  split at h
  · cases h; omega
  · split at h
    · cases h; omega
    · split at h
      · cases h; omega
      · cases h
/-- The names that may not be trailers. -/
def forbiddens : List (List UInt8) :=
  [[97, 117, 116, 104, 111, 114, 105, 122, 97, 116, 105, 111, 110], [99, 97, 99, 104, 101, 45, 99, 111, 110, 116, 114, 111, 108], [99, 111, 110, 116, 101, 110, 116, 45, 108, 101, 110, 103, 116, 104], [104, 111, 115, 116], [115, 101, 116, 45, 99, 111, 111, 107, 105, 101], [116, 114, 97, 105, 108, 101, 114], [116, 114, 97, 110, 115, 102, 101, 114, 45, 101, 110, 99, 111, 100, 105, 110, 103]]
def forb (n : List UInt8) : Bool := decide (n ∈ forbiddens)
/-- The canonical name of a field and its error. -/
def nmE (x : List UInt8) : Int := if isTok x then (if 64 < x.length then 5 else 0) else 8
def nmV (x : List UInt8) : List UInt8 := if nmE x = 0 then Syn.lower x else []
def vlE (x : List UInt8) : Int := if cln x then (if 2048 < (trim x).length then 5 else 0) else 2
def vlV (x : List UInt8) : List UInt8 := if vlE x = 0 then trim x else []
/-- The field of a line. -/
def fline (s : List UInt8) : Option (List UInt8 × List UInt8) :=
  match s.dropWhile (· != 58) with
  | [] => none
  | _ :: v => if nmE (s.takeWhile (· != 58)) = 0 ∧ vlE v = 0 ∧ forb (nmV (s.takeWhile (· != 58))) = false then some (nmV (s.takeWhile (· != 58)), vlV v) else none
def St.err (s : St) (e : Nat) : St := { s with bad := e }
def sized (s : St) (c : UInt8) : St :=
  if c.toNat = 13 ∧ 0 < s.digits then { s with place := 2 }
  else if s.line = 256 then s.err 33
  else if s.place = 1 then (if ctl c then s.err 33 else { s with line := s.line + 1 })
  else if c.toNat = 59 ∧ 0 < s.digits then { s with place := 1, line := s.line + 1 }
  else match hexv c with
    | none => s.err 33
    | some d =>
      if s.digits = 8 then s.err 33
      else if 65536 < s.total + (16 * s.number + d) then { s with digits := s.digits + 1, number := 16 * s.number + d, bad := 5 }
      else { s with digits := s.digits + 1, number := 16 * s.number + d, line := s.line + 1 }
def ended (s : St) (c : UInt8) : St :=
  if s.sect = 8192 ∨ c.toNat = 0 ∨ (decide (c.toNat = 10) != decide (s.place = 7)) = true then s.err 34
  else if c.toNat = 13 then { s with place := 7, sect := s.sect + 1 }
  else if c.toNat ≠ 10 then { s with text := s.text ++ [c], sect := s.sect + 1 }
  else if s.text = [] then { s with place := 8, sect := s.sect + 1 }
  else match fline s.text with
    | none => s.err 34
    | some f => if s.fields.length = 64 then s.err 34 else { s with fields := s.fields ++ [f], place := 6, text := [], sect := s.sect + 1 }
def step (s : St) (c : UInt8) : St :=
  if s.place ≤ 1 then sized s c
  else if s.place = 2 then (if c.toNat ≠ 10 then s.err 33 else if s.number = 0 then { s with place := 6, left := s.number } else { s with place := 3, left := s.number })
  else if s.place = 3 then (if s.left - 1 = 0 then { s with left := s.left - 1, total := s.total + 1, place := 4 } else { s with left := s.left - 1, total := s.total + 1 })
  else if s.place = 4 then (if c.toNat ≠ 13 then s.err 33 else { s with place := 5 })
  else if s.place = 5 then (if c.toNat ≠ 10 then s.err 33 else { s with place := 0, digits := 0, number := 0, line := 0 })
  else ended s c
/-- The state after bytes, the data among them, and how many were taken. -/
def wr : St → List UInt8 → St × List UInt8 × Nat
  | s, [] => (s, [], 0)
  | s, c :: r =>
    if s.bad ≠ 0 ∨ s.place = 8 then (s, [], 0)
    else if (step s c).bad ≠ 0 then (step s c, [], 0)
    else ((wr (step s c) r).1, (if s.place = 3 then c :: (wr (step s c) r).2.1 else (wr (step s c) r).2.1), (wr (step s c) r).2.2 + 1)
/-- What is kept while there is no error. -/
structure Ok (s : St) : Prop where
  bad : s.bad = 0
  place : s.place ≤ 8
  digits : s.digits ≤ 8
  line : s.line ≤ 256
  sect : s.sect ≤ 8192
  early : s.place ≤ 5 → s.sect = 0 ∧ s.text = [] ∧ s.fields = []
  text : s.text.length ≤ s.sect
  fields : s.fields.length ≤ 64
  size : s.place ≤ 2 → s.total + s.number ≤ 65536
  data : s.place = 3 → 1 ≤ s.left ∧ s.total + s.left ≤ 65536
  total : s.total ≤ 65536
  tail : 6 ≤ s.place → s.number = 0
theorem ok_zero : Ok zero := ⟨rfl, by decide, by decide, by decide, by decide, fun _ => ⟨rfl, rfl, rfl⟩, by decide, by decide, by decide, by decide, by decide, by decide⟩
theorem ok_sized {s : St} (h : Ok s) (hp : s.place ≤ 1) (c : UInt8) (hb : (sized s c).bad = 0) : Ok (sized s c) := by
  obtain ⟨h1, h2, h3, h4, h5, h6, h7, h8, h9, h10, h11, h12⟩ := h
  have he := h6 (by omega)
  have hs := h9 (by omega)
  unfold sized at hb ⊢
  split
  · exact ⟨h1, by show 2 ≤ 8; omega, h3, h4, h5, fun _ => he, h7, h8, fun _ => hs, fun e => (by cases e), h11, fun e => by change 6 ≤ 2 at e; omega⟩
  · rename_i n1
    rw [if_neg n1] at hb
    split
    · rename_i n2; rw [if_pos n2] at hb; cases hb
    · rename_i n2
      rw [if_neg n2] at hb
      split
      · rename_i n3
        rw [if_pos n3] at hb
        split
        · rename_i n4; rw [if_pos n4] at hb; cases hb
        · exact ⟨h1, h2, h3, by show s.line + 1 ≤ 256; omega, h5, h6, h7, h8, h9, h10, h11, h12⟩
      · rename_i n3
        rw [if_neg n3] at hb
        split
        · exact ⟨h1, by show 1 ≤ 8; omega, h3, by show s.line + 1 ≤ 256; omega, h5, fun _ => he, h7, h8, fun _ => hs, fun e => (by cases e), h11, fun e => by change 6 ≤ 1 at e; omega⟩
        · rename_i n4
          rw [if_neg n4] at hb
          cases hx : hexv c with
          | none => rw [hx] at hb; cases hb
          | some d =>
            rw [hx] at hb
            simp only at hb ⊢
            split
            · rename_i n5; rw [if_pos n5] at hb; cases hb
            · rename_i n5
              rw [if_neg n5] at hb
              split
              · rename_i n6; rw [if_pos n6] at hb; cases hb
              · rename_i n6
                exact ⟨h1, h2, by show s.digits + 1 ≤ 8; omega, by show s.line + 1 ≤ 256; omega, h5, h6, h7, h8, fun _ => by show s.total + (16 * s.number + d) ≤ 65536; omega, h10, h11, fun e => by change 6 ≤ s.place at e; omega⟩
theorem ok_ended {s : St} (h : Ok s) (hp : 6 ≤ s.place) (c : UInt8) (hb : (ended s c).bad = 0) : Ok (ended s c) := by
  obtain ⟨h1, h2, h3, h4, h5, h6, h7, h8, h9, h10, h11, h12⟩ := h
  have hn := h12 hp
  unfold ended at hb ⊢
  split
  · rename_i n1; rw [if_pos n1] at hb; cases hb
  · rename_i n1
    rw [if_neg n1] at hb
    have hs : s.sect + 1 ≤ 8192 := by omega
    split
    · exact ⟨h1, by show 7 ≤ 8; omega, h3, h4, hs, fun e => by change 7 ≤ 5 at e; omega, by show s.text.length ≤ s.sect + 1; omega, h8, fun e => by change 7 ≤ 2 at e; omega, fun e => (by cases e), h11, fun _ => hn⟩
    · rename_i n2
      rw [if_neg n2] at hb
      split
      · exact ⟨h1, h2, h3, h4, hs, fun e => by change s.place ≤ 5 at e; omega, by show (s.text ++ [c]).length ≤ s.sect + 1; rw [List.length_append, List.length_singleton]; omega, h8, h9, h10, h11, h12⟩
      · rename_i n3
        rw [if_neg n3] at hb
        split
        · exact ⟨h1, by show 8 ≤ 8; omega, h3, h4, hs, fun e => by change 8 ≤ 5 at e; omega, by show s.text.length ≤ s.sect + 1; omega, h8, fun e => by change 8 ≤ 2 at e; omega, fun e => (by cases e), h11, fun _ => hn⟩
        · rename_i n4
          rw [if_neg n4] at hb
          cases hx : fline s.text with
          | none => rw [hx] at hb; cases hb
          | some f =>
            rw [hx] at hb
            simp only at hb ⊢
            split
            · rename_i n5; rw [if_pos n5] at hb; cases hb
            · exact ⟨h1, by show 6 ≤ 8; omega, h3, h4, hs, fun e => by change 6 ≤ 5 at e; omega, by show 0 ≤ _; omega, by show (s.fields ++ [f]).length ≤ 64; rw [List.length_append, List.length_singleton]; omega, fun e => by change 6 ≤ 2 at e; omega, fun e => (by cases e), h11, fun _ => hn⟩
theorem ok_step {s : St} (h : Ok s) (c : UInt8) (hb : (step s c).bad = 0) : Ok (step s c) := by
  unfold step at hb ⊢
  split
  · rename_i n1; rw [if_pos n1] at hb; exact ok_sized h n1 c hb
  · rename_i n1
    rw [if_neg n1] at hb
    split
    · rename_i n2
      rw [if_pos n2] at hb
      have he := h.early (by omega)
      have hs := h.size (by omega)
      split
      · rename_i n3; rw [if_pos n3] at hb; cases hb
      · split
        · rename_i n4
          exact ⟨h.bad, by show 6 ≤ 8; omega, h.digits, h.line, h.sect, fun e => by change 6 ≤ 5 at e; omega, h.text, h.fields, fun e => by change 6 ≤ 2 at e; omega, fun e => (by cases e), h.total, fun _ => n4⟩
        · rename_i n4
          exact ⟨h.bad, by show 3 ≤ 8; omega, h.digits, h.line, h.sect, fun _ => he, h.text, h.fields, fun e => by change 3 ≤ 2 at e; omega, fun _ => ⟨by show 1 ≤ s.number; omega, hs⟩, h.total, fun e => by change 6 ≤ 3 at e; omega⟩
    · rename_i n2
      rw [if_neg n2] at hb
      split
      · rename_i n3
        have he := h.early (by omega)
        have hd := h.data n3
        split
        · exact ⟨h.bad, by show 4 ≤ 8; omega, h.digits, h.line, h.sect, fun _ => he, h.text, h.fields, fun e => by change 4 ≤ 2 at e; omega, fun e => (by cases e), by show s.total + 1 ≤ 65536; omega, fun e => by change 6 ≤ 4 at e; omega⟩
        · rename_i n4
          exact ⟨h.bad, h.place, h.digits, h.line, h.sect, fun _ => he, h.text, h.fields, fun e => by change s.place ≤ 2 at e; omega, fun _ => ⟨by show 1 ≤ s.left - 1; omega, by show s.total + 1 + (s.left - 1) ≤ 65536; omega⟩, by show s.total + 1 ≤ 65536; omega, fun e => by change 6 ≤ s.place at e; omega⟩
      · rename_i n3
        rw [if_neg n3] at hb
        split
        · rename_i n4
          rw [if_pos n4] at hb
          have he := h.early (by omega)
          split
          · rename_i n5; rw [if_pos n5] at hb; cases hb
          · exact ⟨h.bad, by show 5 ≤ 8; omega, h.digits, h.line, h.sect, fun _ => he, h.text, h.fields, fun e => by change 5 ≤ 2 at e; omega, fun e => (by cases e), h.total, fun e => by change 6 ≤ 5 at e; omega⟩
        · rename_i n4
          rw [if_neg n4] at hb
          split
          · rename_i n5
            rw [if_pos n5] at hb
            have he := h.early (by omega)
            split
            · rename_i n6; rw [if_pos n6] at hb; cases hb
            · exact ⟨h.bad, by show 0 ≤ 8; omega, by show 0 ≤ 8; omega, by show 0 ≤ 256; omega, h.sect, fun _ => he, h.text, h.fields, fun _ => by show s.total + 0 ≤ 65536; have := h.total; omega, fun e => (by cases e), h.total, fun e => by change 6 ≤ 0 at e; omega⟩
          · rename_i n5
            rw [if_neg n5] at hb
            exact ok_ended h (by omega) c hb
end Ck
end Go.Proofs.YtemlnmelicnneaaDoor
