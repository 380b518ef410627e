/-
  Layer 8: bytes that stand anywhere, as a text; a text, as bytes.
-/
import Derived.Test.YtjffffpfejmoiaaGreatDoorNNone
namespace Go.Proofs.YtjffffpfejmoiaaGreatDoor
open Go.RowKit Syn Hd Fr Ck
theorem conv_rd {w : World} {v : Value} {l : List UInt8} (h : Rd w 1 v l.length (u8s l)) (hp : 0 < l.length) : (convert 23 9 v).run Tryz.prog w = .ok (.string (str l)) w := by
  obtain ⟨A, cap, rfl, hc, hl, hr⟩ := h
  obtain ⟨b, off, rfl, hlt, hx⟩ := hr hp
  refine run_convert_bytes_back w 23 9 5 ⟨b, off, none⟩ cap l Tryz.underlying23 Tryz.underlying5 Tryz.underlying9 (fun j hj => ?_)
  have := hx j (.int .u8 (l[j].toNat : Int)) (by simp [u8s, hj])
  have hplain : (⟨b, off, none⟩ : Addr).add j = ⟨b, off + j, none⟩ := by unfold Addr.add; split <;> simp_all
  rw [hplain]; exact this
theorem conv_any (T : List UInt8) : ∃ (cf : World → Nat) (wf : World → World), ∀ W, (convert 9 23 (.string (str T))).run Tryz.prog W = .ok (.slice (some ⟨W.heap.size, 0, none⟩) T.length (cf W)) (wf W) ∧ Rd (wf W) 1 (.slice (some ⟨W.heap.size, 0, none⟩) T.length (cf W)) T.length (u8s T) ∧ Below W.heap.size W (wf W) :=
  ⟨fun W => grownCap W T.length 0 5, fun W => Lib.bytesWorld W 5 (str T), fun W => ⟨Lib.run_convert_string_bytes W 9 23 5 (str T) Tryz.underlying9 Tryz.underlying23 Tryz.underlying5, (OwnM.conv W T).rd, conv_below W T⟩⟩
end Go.Proofs.YtjffffpfejmoiaaGreatDoor
