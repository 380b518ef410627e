/-
  What layer 1 computes, on lists of bytes. Plain Lean, no program.
-/
import Derived.Test.YtpfpjcfacbfjaaaGreatDoorBase
import Derived.Lib.Bytealg
namespace Go.Proofs.YtpfpjcfacbfjaaaGreatDoor
namespace Syn
def puncts : List Nat := [33, 35, 36, 37, 38, 39, 42, 43, 45, 46, 94, 95, 96, 124, 126]
def tcN (n : Nat) : Bool := (decide (48 ≤ n) && decide (n ≤ 57)) || (decide (97 ≤ n) && decide (n ≤ 122)) || (decide (65 ≤ n) && decide (n ≤ 90)) || puncts.contains n
def tc (c : UInt8) : Bool := tcN c.toNat
def isTok (l : List UInt8) : Bool := l.all tc && !l.isEmpty
def ctlN (n : Nat) : Bool := (decide (n < 32) && decide (n ≠ 9)) || decide (n = 127)
def ctl (c : UInt8) : Bool := ctlN c.toNat
def cln (l : List UInt8) : Bool := l.all fun c => !ctl c
def low (c : UInt8) : UInt8 := if 65 ≤ c.toNat ∧ c.toNat ≤ 90 then c + 32 else c
def lower (l : List UInt8) : List UInt8 := l.map low
def esc (c : UInt8) : List UInt8 := if c = 34 ∨ c = 92 then [92, c] else [c]
def escs (l : List UInt8) : List UInt8 := l.flatMap esc
def quote (l : List UInt8) : List UInt8 := 34 :: escs l ++ [34]
def unqGo : List UInt8 → List UInt8 → Option (List UInt8)
  | _, [] => none
  | acc, c :: r => if c = 34 then (if r.isEmpty then some acc else none) else if c = 92 then (match r with | [] => none | d :: r' => unqGo (acc ++ [d]) r') else unqGo (acc ++ [c]) r
def unq (l : List UInt8) : Option (List UInt8) := if cln l && decide (2 ≤ l.length) && decide (l.head? = some 34) then unqGo [] (l.drop 1) else none
def blank (c : UInt8) : Bool := c == 32 || c == 9
def trimL (l : List UInt8) : List UInt8 := l.dropWhile blank
def trim (l : List UInt8) : List UInt8 := ((trimL l).reverse.dropWhile blank).reverse
def partsGo (by_ : UInt8) : Bool → List UInt8 → List (List UInt8) → List UInt8 → Option (List (List UInt8))
  | q, cur, out, [] => if q then none else some (out ++ [trim cur])
  | q, cur, out, c :: r =>
    if q && decide (c = 92) then (match r with | [] => none | d :: r' => partsGo by_ q (cur ++ [c, d]) out r')
    else if c = 34 then partsGo by_ (!q) (cur ++ [c]) out r
    else if !q && decide (c = by_) then partsGo by_ q [] (out ++ [trim cur]) r
    else partsGo by_ q (cur ++ [c]) out r
def parts (by_ : UInt8) (l : List UInt8) : Option (List (List UInt8)) := if cln l then partsGo by_ false [] [] l else none
def list (l : List UInt8) : Option (List (List UInt8)) := (parts 44 l).map fun x => x.filter fun y => !y.isEmpty
/-- The name and the value of a parameter. -/
def param (l : List UInt8) : Option (List UInt8 × List UInt8) :=
  let name := l.takeWhile (fun c => c != 61)
  match l.dropWhile (fun c => c != 61) with
  | [] => none
  | _ :: v => if isTok name then (if isTok v then some (lower name, v) else (unq v).map fun u => (lower name, u)) else none
def paramsGo : List (List UInt8 × List UInt8) → List (List UInt8) → Option (List (List UInt8 × List UInt8))
  | acc, [] => some acc
  | acc, x :: r => if x.isEmpty then paramsGo acc r else match param x with | none => none | some p => paramsGo (acc ++ [p]) r
def split (l : List UInt8) : Option (List UInt8 × List (List UInt8 × List UInt8)) :=
  match parts 59 l with
  | none => none
  | some [] => none
  | some (x :: r) => (paramsGo [] r).map fun ps => (x, ps)
def joinGo : List UInt8 → List (List UInt8 × List UInt8) → Option (List UInt8)
  | acc, [] => some acc
  | acc, (n, v) :: r => if isTok n && (isTok v || cln v) then joinGo (acc ++ [59, 32] ++ lower n ++ [61] ++ (if isTok v then v else quote v)) r else none
def dig (c : UInt8) : Bool := decide (48 ≤ c.toNat) && decide (c.toNat ≤ 57)
def valGo : Nat → List UInt8 → Nat
  | n, [] => n
  | n, c :: r => valGo (10 * n + (c.toNat - 48)) r
/-- The number, or ErrForm (1) or ErrLarge. -/
def digits (l : List UInt8) : Bool := l.all dig && !l.isEmpty

theorem punct_at : ∀ n, n < 256 → decide (0 ≤ Lib.indexByte [33, 35, 36, 37, 38, 39, 42, 43, 45, 46, 94, 95, 96, 124, 126] n.toUInt8) = puncts.contains n := by decide +kernel
end Syn
end Go.Proofs.YtpfpjcfacbfjaaaGreatDoor
