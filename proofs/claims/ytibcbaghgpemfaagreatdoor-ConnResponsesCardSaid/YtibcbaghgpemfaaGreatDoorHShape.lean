import Derived.Test.YtibcbaghgpemfaaGreatDoorGHd
import Derived.Test.YtibcbaghgpemfaaGreatDoorShelfSpl
namespace Go.Proofs.YtibcbaghgpemfaaGreatDoor
open Go.RowKit Hd
theorem maxl_of {W : World} (h : W.ShapedOpen Tryz.prog) : MaxL W:=Tryz.laysM146.s1_3 W h
end Go.Proofs.YtibcbaghgpemfaaGreatDoor
