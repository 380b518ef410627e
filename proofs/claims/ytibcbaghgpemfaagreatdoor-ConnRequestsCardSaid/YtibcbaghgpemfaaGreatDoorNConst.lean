import Derived.Test.YtibcbaghgpemfaaGreatDoorNConv
import Derived.Shelf.Bytes.SlSmallAll
namespace Go.Proofs.YtibcbaghgpemfaaGreatDoor
open Go.RowKit Syn Hd Fr Ck
theorem conv_all {w : World} {v : Value} {l : List UInt8} (h : Rd w 1 v l.length (u8s l)) : Sem.run Tryz.prog (convert 23 9 v) w = .ok (.string (str l)) w:=by
 by_cases hl : 0 < l.length
 ·exact conv_rd h hl
 ·obtain rfl : l = []:=List.length_eq_zero_iff.1 (by omega)
  obtain ⟨A,cap,rfl,-,-,-⟩:=h
  exact Go.Proofs.run_convert_bytes_zero w 23 5 Tryz.underlying23 Tryz.underlying5 A cap 9 Tryz.underlying9
end Go.Proofs.YtibcbaghgpemfaaGreatDoor
