import Derived.Test.YtjffffpfejmoiaaGreatDoorDRef
namespace Go.Proofs.YtjffffpfejmoiaaGreatDoor
open Go.RowKit Syn Hd Fr Ck
namespace Cn
def dsum (l : List Ev) : Nat:=(l.map fun e => e.data.length).sum
theorem dsum_app (a b : List Ev) : dsum (a ++ b) = dsum a + dsum b:=by unfold dsum; rw [List.map_append,List.sum_append]
theorem dsum_one (e : Ev) : dsum [e] = e.data.length:=by simp [dsum]
theorem dsum_cons (e : Ev) (l : List Ev) : dsum (e :: l) = e.data.length + dsum l:=by simp [dsum]
theorem dsum_take (l : List Ev) (k : Nat) : dsum (l.take k) ≤ dsum l:=by
 have h:=dsum_app (l.take k) (l.drop k); rw [List.take_append_drop] at h
 omega
theorem jadd_two' {o : List Ev} {x e : Ev} (h : x.kind = 2 ∧ e.kind = 2) : jadd (o ++ [x]) e = o ++ [{ x with data:=x.data ++ e.data }]:=by
 unfold jadd
 rw [List.getLast?_append,List.getLast?_singleton,List.dropLast_concat]
 exact if_pos h
theorem jadd_one' {o : List Ev} {x e : Ev} (h : ¬ (x.kind = 2 ∧ e.kind = 2)) : jadd (o ++ [x]) e = (o ++ [x]) ++ [e]:=by
 unfold jadd
 rw [List.getLast?_append,List.getLast?_singleton,List.dropLast_concat]
 exact if_neg h
theorem jadd_nil' (e : Ev) : jadd [] e = [e]:=rfl
end Cn
end Go.Proofs.YtjffffpfejmoiaaGreatDoor
