/-
  The walk of TierSteady, over the string that came in.
-/
import Derived.Test.YtkcipebpknapkaaGreatDoorTSteadyW
namespace Go.Proofs.YtkcipebpknapkaaGreatDoor
open Go.Shelf Go.RowKit Go.Lib Go.Sort Rg Syn Ti
theorem steady_walkB (w : World) (vs vu : Value) (AP : Option Addr) (cP : Nat) (sh up pa : List Bytes) (self key : Bytes) (tries : Int) (h0 : Rd w 1 vs sh.length (strs sh)) (h1 : Rd w 1 vu up.length (strs up)) (h2 : Rd w 1 (.slice AP pa.length cP) pa.length (strs pa)) (hnil : AP = none → cP = 0) (hS : sumB sh + sumB up + sumB pa ≤ 4611686018427387904) (hs : self.length ≤ 1048576) (hk : key.length ≤ 1048576) (other : ByteArray) (hot : other.data.toList.length ≤ 1048576) :
    Calls Tryz.prog 5 #[.agg (caseC vs vu (.slice AP pa.length cP) self key tries), .string other] w fun e w' => e = .returned (.bool true) ∧ Below w.heap.size w w' := by
  have h := steady_walk w vs vu AP cP sh up pa self key tries h0 h1 h2 hnil hS hs hk (bs other) hot
  rwa [str_bs] at h
end Go.Proofs.YtkcipebpknapkaaGreatDoor
