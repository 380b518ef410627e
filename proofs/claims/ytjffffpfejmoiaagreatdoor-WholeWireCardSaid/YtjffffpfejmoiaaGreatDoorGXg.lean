import Derived.Test.YtjffffpfejmoiaaGreatDoorNNone
import Derived.Shelf.Bytes.SlSmallAll
namespace Go.Proofs.YtjffffpfejmoiaaGreatDoor
open Go.RowKit Syn Hd Fr Ck
theorem conv_rd {w : World} {v : Value} {l : List UInt8} (h : Rd w 1 v l.length (u8s l)) (hp : 0 < l.length) : (convert 23 9 v).run Tryz.prog w = .ok (.string (str l)) w:=by
 obtain ⟨A,cap,rfl,hc,hl,hr⟩:=h
 obtain ⟨b,off,rfl,hlt,hx⟩:=hr hp
 refine run_convert_bytes_back w 23 9 5 ⟨b,off,none⟩ cap l Tryz.underlying23 Tryz.underlying5 Tryz.underlying9 (fun j hj => ?_)
 have:=hx j (.int .u8 (l[j].toNat : Int)) (by simp [u8s,hj])
 have hplain : (⟨b,off,none⟩ : Addr).add j = ⟨b,off + j,none⟩:=by unfold Addr.add; split <;> simp_all
 rw [hplain]; exact this
end Go.Proofs.YtjffffpfejmoiaaGreatDoor
namespace Go.Proofs.YtjffffpfejmoiaaGreatDoor
open Go.RowKit Syn Hd Fr Ck
theorem const_any (l : List UInt8) (W : World) : ∃ w',Sem.run Tryz.prog (convert 23 23 (.slice (some ⟨W.heap.size,0,none⟩) l.length l.length)) (W.alloc (.cells (u8s l).toArray 5)) = .ok (.slice (some ⟨W.heap.size,0,none⟩) l.length l.length) w' ∧
  Rd w' 1 (.slice (some ⟨W.heap.size,0,none⟩) l.length l.length) l.length (u8s l) ∧ Below W.heap.size W w' :=
 ⟨_,Lib.run_convert_bytes_const (P:=Tryz.prog) W 23 5 (u8s l).toArray l.length l.length Tryz.underlying23 Tryz.underlying5,rd_const W l _,(Below.refl _ W).alloc (Nat.le_refl _) _⟩
theorem conv_all {w : World} {v : Value} {l : List UInt8} (h : Rd w 1 v l.length (u8s l)) : Sem.run Tryz.prog (convert 23 9 v) w = .ok (.string (str l)) w:=by
 by_cases hl : 0 < l.length
 ·exact conv_rd h hl
 ·obtain rfl : l = []:=List.length_eq_zero_iff.1 (by omega)
  obtain ⟨A,cap,rfl,-,-,-⟩:=h
  exact Go.Proofs.run_convert_bytes_zero w 23 5 Tryz.underlying23 Tryz.underlying5 A cap 9 Tryz.underlying9
end Go.Proofs.YtjffffpfejmoiaaGreatDoor
