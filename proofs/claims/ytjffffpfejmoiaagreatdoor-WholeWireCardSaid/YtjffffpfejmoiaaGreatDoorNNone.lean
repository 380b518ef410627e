import Derived.Test.YtjffffpfejmoiaaGreatDoorNWrite
import Derived.Test.YtjffffpfejmoiaaGreatDoorNAwP
namespace Go.Proofs.YtjffffpfejmoiaaGreatDoor
open Go.RowKit Syn Hd Fr Ck
theorem newreq_any (w : World) : Calls Tryz.prog 9 #[] w fun e w' => e = .returned (.pointer (some ⟨w.heap.size,0,none⟩)) ∧ w' = w.alloc (.cells #[.bool false,.bool false,.bool false,.slice none 0 0,.int .i64 0,.slice none 0 0,.int .i64 0,.int .i64 0,.pointer none,.nilIface] 73):=by
 go_enter Tryz.func9,Tryz.ntmps9
 go_wp2; go_ret; exact ⟨rfl,rfl⟩
theorem newreq_at (w : World) : Cn.At (w.alloc (.cells #[.bool false,.bool false,.bool false,.slice none 0 0,.int .i64 0,.slice none 0 0,.int .i64 0,.int .i64 0,.pointer none,.nilIface] 73)) w.heap.size (· = w.heap.size) (Cn.new false []):=by
 have hb:=Blk.new w 73 #[.bool false,.bool false,.bool false,.slice none 0 0,.int .i64 0,.slice none 0 0,.int .i64 0,.int .i64 0,.pointer none,.nilIface]; refine ⟨rfl,fun k h => by rw [h]; exact hb.lt,.slice none 0 0,.slice none 0 0,0,0,.pointer none,hb,fun _ => ?_⟩
 exact ⟨Rd.nil _ 1,On.nil _,by decide,⟨none,0,rfl,fun _ => rfl,fun h => (by cases h)⟩,Rd.nil _ 1,On.nil _,by decide,fun h => (by cases h),fun h => (by cases h)⟩
theorem rd_const (w : World) (l : List UInt8) (m : Nat × Nat) : Rd (w.alloc (.cells (u8s l).toArray 5 m)) 1 (.slice (some ⟨w.heap.size,0,none⟩) l.length l.length) l.length (u8s l):=by
 refine ⟨_,_,rfl,Nat.le_refl _,by rw [u8s_length,Nat.mul_one],fun _ => ⟨w.heap.size,0,rfl,by rw [alloc_size']; omega,fun j u hu => ?_⟩⟩
 rw [Nat.zero_add]
 have e : (u8s l).toArray[j]? = (u8s l)[j]?:=List.getElem?_toArray
 simp [World.cell?,World.alloc,-World.alloc_eq]
 simpa using hu
theorem MaxL.kp {w w' : World} {F : Nat → Prop} (h : MaxL w) (hk : Kp F w w') (hF : ∀ k,F k → w.heap.size ≤ k) : MaxL w':=h.below (hk.toBelow (Nat.le_refl _) hF)
end Go.Proofs.YtjffffpfejmoiaaGreatDoor
