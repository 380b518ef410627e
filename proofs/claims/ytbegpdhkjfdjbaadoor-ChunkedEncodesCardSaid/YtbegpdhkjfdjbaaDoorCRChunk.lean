/-
  Layer 7: the document's Chunk.
-/
import Derived.Test.YtbegpdhkjfdjbaaDoorCMark
import Derived.Test.YtbegpdhkjfdjbaaDoorCSize
namespace Go.Proofs.YtbegpdhkjfdjbaaDoor
open Go.RowKit Syn Ck

theorem Rd.two8 {w : World} {g : Nat} {c d : UInt8} {t : TypeId} (h : Blk w g t #[.int .u8 (c.toNat : Int), .int .u8 (d.toNat : Int)]) : Rd w 1 (.slice (some ⟨g, 0, none⟩) 2 2) 2 (u8s [c, d]) :=
  ⟨_, _, rfl, Nat.le_refl _, rfl, fun _ => ⟨g, 0, rfl, h.lt, fun j u hu => by rw [Nat.zero_add, h.cell j]; simpa [u8s] using hu⟩⟩
set_option maxRecDepth 100000 in
set_option maxHeartbeats 4000000 in
theorem rchunk_any (b : List UInt8) (v : Value) (w : World) (hR : Rd w 1 v b.length (u8s b)) (hm : b.length ≤ 900000) :
    Calls Tryd.prog 25 #[v] w fun e w' => ∃ v, e = .returned v ∧ OwnM w' w.heap.size v (chk b) ∧ Below w.heap.size w w' := by
  obtain ⟨A, cap, rfl, -⟩ := id hR
  by_cases h0 : b = []
  · subst h0
    have hq : (((List.length (α := UInt8) []) : Int) == 0) = true := rfl
    clear hR
    go_enter Tryd.func25, Tryd.ntmps25
    go_wp2
    go_ret
    exact ⟨_, rfl, .inl ⟨rfl, rfl⟩, Below.refl _ _⟩
  · have hq : ((b.length : Int) == 0) = false := beq_cast_false (fun e => h0 (List.eq_nil_of_length_eq_zero e))
    have hck : chk b = hexs b.length ++ [13, 10] ++ b ++ [13, 10] := by unfold chk; rw [if_neg h0]; simp
    have hS := rsize_any b.length w (by omega)
    have hhl := hexs_len 15 b.length (by omega)
    replace hR := Lib.hid hR
    replace hck := Lib.hid hck
    replace h0 := Lib.hid h0
    have kc := fun (w : World) (s : ByteArray) => Lib.run_convert_string_bytes (P := Tryd.prog) w 9 30 5 s Tryd.underlying9 Tryd.underlying30 Tryd.underlying5
    generalize hexs b.length = hx at *
    have hcv := fun w => OwnM.conv w hx
    have hcb := fun w => conv_below w hx
    have e4 : (str hx).size = hx.length := str_size hx
    replace hS := Lib.hid hS
    replace hcv := Lib.hid hcv
    replace hcb := Lib.hid hcb
    go_enter Tryd.func25, Tryd.ntmps25
    go_wp2_with fail
    refine hS.out.mono ?_
    rintro e w1 ⟨rfl, m1, hw1⟩
    have hB1 : Below w.heap.size w w1 := by rw [hw1]; exact below_drewN (Below.refl _ _) m1
    clear hw1
    have hB1s := hB1.size
    have hO2 := (hcv.out w1).base hB1s
    have hB2 := Below.next hB1 hB1s (hcb.out w1)
    have hx2 := fun w' => Rd.two8 (c := 13) (d := 10) (Blk.new w' 5 #[.int .u8 13, .int .u8 10])
    have hone := fun w' : World => (Below.refl w'.heap.size w').alloc (Nat.le_refl _) (.cells #[.int .u8 13, .int .u8 10] 5)
    replace hB1 := Lib.hid hB1
    replace hO2 := Lib.hid hO2
    replace hB2 := Lib.hid hB2
    replace hx2 := Lib.hid hx2
    replace hone := Lib.hid hone
    have hB2s := hB2.out.size
    clear hcv hcb
    have kc1 := kc w1 (str hx)
    rw [e4] at kc1
    clear kc
    generalize hwz : Lib.bytesWorld w1 5 (str hx) = w2 at *
    replace hwz := Lib.hid hwz
    generalize grownCap w1 hx.length 0 5 = c2 at *
    have hO2a := Lib.hid (hO2.out.below (hone.out w2))
    have hB2a := Lib.hid (Below.next hB2.out hB2s (hone.out w2))
    have hB2as := hB2a.out.size
    go_wp2_with (at_builtin; first
      | (refine step_pushM _ _ rfl rfl [13, 10] hO2a.out rfl rfl rfl (hx2.out w2) (by omega) hB2as ?_; intro v3 w3 hO3 hb3; have hB3 := Lib.hid (hB2a.out.trans hb3); have hB3s := hB3.out.size; obtain ⟨L3, hL3⟩ : ∃ L3, hx ++ [13, 10] = L3 := ⟨_, rfl⟩; rw [hL3] at hO3; have hl3 : L3.length ≤ 20 := (by rw [← hL3, List.length_append]; simp; omega); replace hL3 := Lib.hid hL3; obtain ⟨A3, c3, rfl, -⟩ := id hO3.rd; replace hO3 := Lib.hid hO3; have hR3 := Lib.hid (hR.out.below hB3.out); clear hb3)
      | (refine step_pushM _ _ rfl rfl b hO3.out rfl rfl rfl hR3.out (by omega) hB3s ?_; intro v4 w4 hO4 hb4; have hB4 := Lib.hid (hB3.out.trans hb4); obtain ⟨L4, hL4⟩ : ∃ L4, L3 ++ b = L4 := ⟨_, rfl⟩; rw [hL4] at hO4; have hl4 : L4.length ≤ 900020 := (by rw [← hL4, List.length_append]; omega); replace hL4 := Lib.hid hL4; obtain ⟨A4, c4, rfl, -⟩ := id hO4.rd; have hO4a := Lib.hid (hO4.below (hone.out w4)); have hB4a := Lib.hid (Below.next hB4.out hB4.out.size (hone.out w4)); have hB4as := hB4a.out.size; clear hb4 hO4)
      | (refine step_pushM _ _ rfl rfl [13, 10] hO4a.out rfl rfl rfl (hx2.out w4) (by omega) hB4as ?_; intro v5 w5 hO5 hb5; have hB5 := Lib.hid (hB4a.out.trans hb5); replace hO5 := Lib.hid hO5; clear hb5))
    go_ret
    exact ⟨_, rfl, by rw [hck.out, hL3.out, hL4.out]; exact hO5.out, hB5.out⟩
end Go.Proofs.YtbegpdhkjfdjbaaDoor
