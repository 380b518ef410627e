/-
  The walk of FramingNames.
-/
import Derived.Test.YtodgkppjabhhlaaDoorFNames
import Derived.Test.YtodgkppjabhhlaaDoorFReqWalk
namespace Go.Proofs.YtodgkppjabhhlaaDoor
open Go.RowKit Syn Fr

set_option maxRecDepth 100000 in
set_option maxHeartbeats 8000000 in
theorem names_walk (c : Int) (w : World) :
    Calls Tryd.prog 7 #[.int .i64 c] w fun e w' => e = .returned (.bool true) ∧ Below w.heap.size w w' := by
  have hbq := beq_self_eq_true (name c).toList
  have hN := Lib.hid (fun w => name_any c w)
  have hR := Lib.hid (fun w => rname_any c w)
  generalize name c = x at *
  go_enter Tryd.func7, Tryd.ntmps7
  go_wp2_with fail
  refine (fawake_any _).mono ?_
  rintro e w1 ⟨rfl, hb1⟩
  replace hb1 := Lib.hid hb1
  go_wp2_with fail
  refine (hN.out _).mono ?_
  rintro e w2 ⟨rfl, rfl⟩
  go_wp2_with fail
  refine (hR.out _).mono ?_
  rintro e w3 ⟨rfl, hb3⟩
  replace hb3 := Lib.hid (Below.next hb1.out hb1.out.size hb3)
  go_wp2_with fail
  refine (name_nil _).mono ?_
  rintro e w4 ⟨rfl, rfl⟩
  go_wp2
  go_ret
  exact ⟨rfl, hb3.out⟩
end Go.Proofs.YtodgkppjabhhlaaDoor
