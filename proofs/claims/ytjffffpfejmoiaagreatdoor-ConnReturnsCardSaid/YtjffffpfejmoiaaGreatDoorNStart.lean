/-
  Layer 8: Conn.start.
-/
import Derived.Test.YtjffffpfejmoiaaGreatDoorNStartP
import Derived.Deep.RegionHeld3
import Derived.IntWalk
namespace Go.Proofs.YtjffffpfejmoiaaGreatDoor
open Go.RowKit Syn Hd Fr Ck

theorem Blk.eight {w : World} {g : Nat} {t : TypeId} {x0 x1 x2 x3 x4 x5 x6 x7 : Value} (h : Blk w g t #[x0, x1, x2, x3, x4, x5, x6, x7]) (a0 a1 a2 a3 a4 a5 a6 a7 : Value) :
    Blk ((((((((w.setCell ⟨g, 0, none⟩ a0).setCell ⟨g, 1, none⟩ a1).setCell ⟨g, 2, none⟩ a2).setCell ⟨g, 3, none⟩ a3).setCell ⟨g, 4, none⟩ a4).setCell ⟨g, 5, none⟩ a5).setCell ⟨g, 6, none⟩ a6).setCell ⟨g, 7, none⟩ a7) g t #[a0, a1, a2, a3, a4, a5, a6, a7] := by
  have h0 : Blk _ g t #[a0, x1, x2, x3, x4, x5, x6, x7] := h.set_ 0 a0
  have h1 : Blk _ g t #[a0, a1, x2, x3, x4, x5, x6, x7] := h0.set_ 1 a1
  have h2 : Blk _ g t #[a0, a1, a2, x3, x4, x5, x6, x7] := h1.set_ 2 a2
  have h3 : Blk _ g t #[a0, a1, a2, a3, x4, x5, x6, x7] := h2.set_ 3 a3
  have h4 : Blk _ g t #[a0, a1, a2, a3, a4, x5, x6, x7] := h3.set_ 4 a4
  have h5 : Blk _ g t #[a0, a1, a2, a3, a4, a5, x6, x7] := h4.set_ 5 a5
  have h6 : Blk _ g t #[a0, a1, a2, a3, a4, a5, a6, x7] := h5.set_ 6 a6
  have h7 : Blk _ g t #[a0, a1, a2, a3, a4, a5, a6, a7] := h6.set_ 7 a7
  exact h7
theorem Kp.eight {F : Nat → Prop} {a w : World} (h : Kp F a w) {g : Nat} (hg : a.heap.size ≤ g) (a0 a1 a2 a3 a4 a5 a6 a7 : Value) :
    Kp F a ((((((((w.setCell ⟨g, 0, none⟩ a0).setCell ⟨g, 1, none⟩ a1).setCell ⟨g, 2, none⟩ a2).setCell ⟨g, 3, none⟩ a3).setCell ⟨g, 4, none⟩ a4).setCell ⟨g, 5, none⟩ a5).setCell ⟨g, 6, none⟩ a6).setCell ⟨g, 7, none⟩ a7) := by
  have hh : g < a.heap.size → F g := fun h => absurd h (by omega)
  exact (((((((h.set_ hh 0 a0).set_ hh 1 a1).set_ hh 2 a2).set_ hh 3 a3).set_ hh 4 a4).set_ hh 5 a5).set_ hh 6 a6).set_ hh 7 a7
theorem Kp.eightF {F : Nat → Prop} {a w : World} (h : Kp F a w) {g : Nat} (hg : F g) (a0 a1 a2 a3 a4 a5 a6 a7 : Value) :
    Kp F a ((((((((w.setCell ⟨g, 0, none⟩ a0).setCell ⟨g, 1, none⟩ a1).setCell ⟨g, 2, none⟩ a2).setCell ⟨g, 3, none⟩ a3).setCell ⟨g, 4, none⟩ a4).setCell ⟨g, 5, none⟩ a5).setCell ⟨g, 6, none⟩ a6).setCell ⟨g, 7, none⟩ a7) := by
  have hh : g < a.heap.size → F g := fun _ => hg
  exact (((((((h.set_ hh 0 a0).set_ hh 1 a1).set_ hh 2 a2).set_ hh 3 a3).set_ hh 4 a4).set_ hh 5 a5).set_ hh 6 a6).set_ hh 7 a7
theorem Blk.far8 {w : World} {g g' : Nat} {t : TypeId} {cs : Array Value} (h : Blk w g' t cs) (hg : g' ≠ g) (a0 a1 a2 a3 a4 a5 a6 a7 : Value) :
    Blk ((((((((w.setCell ⟨g, 0, none⟩ a0).setCell ⟨g, 1, none⟩ a1).setCell ⟨g, 2, none⟩ a2).setCell ⟨g, 3, none⟩ a3).setCell ⟨g, 4, none⟩ a4).setCell ⟨g, 5, none⟩ a5).setCell ⟨g, 6, none⟩ a6).setCell ⟨g, 7, none⟩ a7) g' t cs :=
  (((((((h.far (p := ⟨g, 0, none⟩) hg a0).far (p := ⟨g, 1, none⟩) hg a1).far (p := ⟨g, 2, none⟩) hg a2).far (p := ⟨g, 3, none⟩) hg a3).far (p := ⟨g, 4, none⟩) hg a4).far (p := ⟨g, 5, none⟩) hg a5).far (p := ⟨g, 6, none⟩) hg a6).far (p := ⟨g, 7, none⟩) hg a7
theorem run_eeq (c d : Int) (w : World) : (binOp .eql 32 (.iface 57 (.int .i64 c)) (.iface 57 (.int .i64 d))).run Tryz.prog w = .ok (.bool (c == d)) w := by kernel_rfl
theorem run_neq (d : Int) (w : World) : (binOp .eql 32 .nilIface (.iface 57 (.int .i64 d))).run Tryz.prog w = .ok (.bool false) w := by kernel_rfl

namespace Cn
theorem evC_req {w : World} {P : Nat → Prop} {m t : List UInt8} {L : Flds} {v : Value} (h : Rd w 2 v L.length (prs L)) (hP : On P v) : EvC w P (evReq m t L) [.int .i64 1, .string (str m), .string (str t), v, .int .i64 0, .slice none 0 0, .slice none 0 0, .slice none 0 0] :=
  ⟨v, _, _, _, rfl, h, hP, Rd.nil w 2, On.nil P, Rd.nil w 1, On.nil P, Rd.nil w 2, On.nil P⟩
theorem evC_resp {w : World} {P : Nat → Prop} {z : Int} {L : Flds} {v : Value} (h : Rd w 2 v L.length (prs L)) (hP : On P v) : EvC w P (evResp z L) [.int .i64 1, .string ⟨#[]⟩, .string ⟨#[]⟩, .slice none 0 0, .int .i64 z, v, .slice none 0 0, .slice none 0 0] :=
  ⟨_, v, _, _, rfl, Rd.nil w 2, On.nil P, h, hP, Rd.nil w 1, On.nil P, Rd.nil w 2, On.nil P⟩
theorem cells_sC (c : C) (vm vb : Value) (kv lv : Int) (vd ev : Value) : cells (sC c) vm vb kv lv vd ev = #[.bool c.resp, .bool c.closed, .bool (!inf c), vm, .int .i64 ((c.many : Int) + 1), vb, .int .i64 kv, .int .i64 lv, vd, ev] := rfl
theorem StartR.bad {w w' : World} {g : Nat} {F : Nat → Prop} {c : C} {n : Int} {vm vb vd : Value} {kv lv : Int} (hw : ¬ wait c) (hs : sE c = n) (h0 : n ≠ 0) (hF : F g) (hlt : ∀ k, F k → k < w.heap.size) (hk : Kp (· = g) w w')
    (hb : Blk w' g 73 (cells c vm vb kv lv vd (.iface 57 (.int .i64 n)))) (a0 a1 a2 a3 a4 a5 a6 a7 : Value) (hs8 : Shp [a0, a1, a2, a3, a4, a5, a6, a7]) : StartR w g F c (.returned (.tuple #[.agg #[a0, a1, a2, a3, a4, a5, a6, a7], .bool false])) w' := by
  subst hs
  refine ⟨hk, .inl ⟨[a0, a1, a2, a3, a4, a5, a6, a7], hs8, rfl, .inr ⟨hw, h0, hF, fun k h => Nat.lt_of_lt_of_le (hlt k h) hk.size, vm, vb, kv, lv, vd, ?_, fun e => absurd e h0⟩⟩⟩
  show Blk w' g _ (cells c vm vb kv lv vd (errV (sE c)))
  unfold errV; rw [if_neg h0]; exact hb
theorem StartR.wait {w w' : World} {g : Nat} {F : Nat → Prop} {c : C} {vm vb vd : Value} {kv lv : Int} (hw : wait c) (h0 : c.err = 0) (hF : F g) (hlt : ∀ k, F k → k < w.heap.size) (hk : Kp (· = g) w w')
    (hb : Blk w' g 73 (cells c vm vb kv lv vd .nilIface)) (hL : Live w g F c vm vb kv lv vd) (a0 a1 a2 a3 a4 a5 a6 a7 : Value) (hs8 : Shp [a0, a1, a2, a3, a4, a5, a6, a7]) : StartR w g F c (.returned (.tuple #[.agg #[a0, a1, a2, a3, a4, a5, a6, a7], .bool false])) w' := by
  refine ⟨hk, .inl ⟨[a0, a1, a2, a3, a4, a5, a6, a7], hs8, rfl, .inl ⟨hw, hF, fun k h => Nat.lt_of_lt_of_le (hlt k h) hk.size, vm, vb, kv, lv, vd, ?_, fun _ => hL.kp hk (fun k _ h e => h e)⟩⟩⟩
  rw [h0]; exact hb
end Cn
set_option maxRecDepth 100000 in
set_option maxHeartbeats 32000000 in
theorem start_any {c : Cn.C} {w : World} {g : Nat} {F : Nat → Prop} (hA : Cn.At w g F c) (h0 : c.err = 0) (hbd : c.body = false) (hn : c.buf ≠ []) (hm : c.buf.length ≤ 1000000) (hM : MaxL w) :
    Calls Tryz.prog 30 #[.pointer (some ⟨g, 0, none⟩)] w (Cn.StartR w g F c) := by
  obtain ⟨hF, hlt, vm, vb, kv, lv, vd, hB, hL⟩ := hA
  replace hL := hL h0
  rcases c with ⟨resp, closed, body, meth, many, buf, kind, len, dec, err⟩
  obtain rfl : err = 0 := h0
  obtain rfl : body = false := hbd
  replace hn : buf ≠ [] := hn
  replace hm : buf.length ≤ 1000000 := hm
  replace hB : Blk w g 73 #[.bool resp, .bool closed, .bool false, vm, .int .i64 (many : Int), vb, .int .i64 kv, .int .i64 lv, vd, .nilIface] := hB
  obtain ⟨A, cap, rfl, hc0⟩ : ∃ A cap, vb = .slice A buf.length cap ∧ (A = none → cap = 0) := by
    obtain ⟨A, cap, h1, h2, -⟩ := hL.nil
    exact ⟨A, cap, h1, h2⟩
  have hbuf : Rd w 1 (.slice A buf.length cap) buf.length (u8s buf) := hL.buf
  obtain ⟨A', c', e', hcap, -, -⟩ := id hbuf
  cases e'
  have hmeth : Rd w 1 vm meth.length (strs meth) := hL.meth
  obtain ⟨Am, cm, rfl, hcm, -, rm⟩ := id hmeth
  have hmany : many ≤ 64 := hL.many
  have hfew : meth.length ≤ 1000 := hL.few
  have hgl := hB.lt
  replace hB := Lib.hid hB
  replace hL := Lib.hid hL
  replace hbuf := Lib.hid hbuf
  replace hmeth := Lib.hid hmeth
  replace hc0 := Lib.hid hc0
  replace hlt := Lib.hid hlt
  replace hF := Lib.hid hF
  replace hn := Lib.hid hn
  replace rm := Lib.hid rm
  go_enter Tryz.func30, Tryz.ntmps30
  go_upto_region 2 with (fail)
  have hR2 : Blk ((w.alloc (.cells #[.int .i64 0, .string ⟨#[]⟩, .string ⟨#[]⟩, .slice none 0 0, .int .i64 0, .slice none 0 0, .slice none 0 0, .slice none 0 0] 77)).alloc (.cells #[.int .i64 1, .string ⟨#[]⟩, .string ⟨#[]⟩, .slice none 0 0, .int .i64 0, .slice none 0 0, .slice none 0 0, .slice none 0 0] 77)) w.heap.size 77 #[.int .i64 0, .string ⟨#[]⟩, .string ⟨#[]⟩, .slice none 0 0, .int .i64 0, .slice none 0 0, .slice none 0 0, .slice none 0 0] := (Blk.new w 77 #[.int .i64 0, .string ⟨#[]⟩, .string ⟨#[]⟩, .slice none 0 0, .int .i64 0, .slice none 0 0, .slice none 0 0, .slice none 0 0]).alloc _
  have hO2 : Blk ((w.alloc (.cells #[.int .i64 0, .string ⟨#[]⟩, .string ⟨#[]⟩, .slice none 0 0, .int .i64 0, .slice none 0 0, .slice none 0 0, .slice none 0 0] 77)).alloc (.cells #[.int .i64 1, .string ⟨#[]⟩, .string ⟨#[]⟩, .slice none 0 0, .int .i64 0, .slice none 0 0, .slice none 0 0, .slice none 0 0] 77)) (w.heap.size + 1) 77 #[.int .i64 1, .string ⟨#[]⟩, .string ⟨#[]⟩, .slice none 0 0, .int .i64 0, .slice none 0 0, .slice none 0 0, .slice none 0 0] := by
    have := Blk.new (w.alloc (.cells #[.int .i64 0, .string ⟨#[]⟩, .string ⟨#[]⟩, .slice none 0 0, .int .i64 0, .slice none 0 0, .slice none 0 0, .slice none 0 0] 77)) 77 #[.int .i64 1, .string ⟨#[]⟩, .string ⟨#[]⟩, .slice none 0 0, .int .i64 0, .slice none 0 0, .slice none 0 0, .slice none 0 0]
    rwa [alloc_size'] at this
  have hb2 : Below w.heap.size w ((w.alloc (.cells #[.int .i64 0, .string ⟨#[]⟩, .string ⟨#[]⟩, .slice none 0 0, .int .i64 0, .slice none 0 0, .slice none 0 0, .slice none 0 0] 77)).alloc (.cells #[.int .i64 1, .string ⟨#[]⟩, .string ⟨#[]⟩, .slice none 0 0, .int .i64 0, .slice none 0 0, .slice none 0 0, .slice none 0 0] 77)) := ((Below.refl w.heap.size w).alloc (Nat.le_refl _) _).alloc (by rw [alloc_size']; omega) _
  have hk2 := (Kp.refl (· = g) w).below hb2
  have hC2 := hB.out.below hb2
  generalize (w.alloc (.cells #[.int .i64 0, .string ⟨#[]⟩, .string ⟨#[]⟩, .slice none 0 0, .int .i64 0, .slice none 0 0, .slice none 0 0, .slice none 0 0] 77)).alloc (.cells #[.int .i64 1, .string ⟨#[]⟩, .string ⟨#[]⟩, .slice none 0 0, .int .i64 0, .slice none 0 0, .slice none 0 0, .slice none 0 0] 77) = w2 at *
  have hM2 := Lib.hid (hM.below hb2)
  have hbuf2 := Lib.hid (hbuf.out.below hb2)
  have hms2 := Lib.hid (hmeth.out.below hb2)
  clear hb2
  replace hM := Lib.hid hM
  replace hR2 := Lib.hid hR2
  replace hO2 := Lib.hid hO2
  replace hC2 := Lib.hid hC2
  replace hk2 := Lib.hid hk2
  have hg1 : g ≠ w.heap.size := by omega
  have hg2 : g ≠ w.heap.size + 1 := by omega
  have hg3 : w.heap.size ≠ w.heap.size + 1 := by omega
  replace hgl := Lib.hid hgl
  cases resp with
  | true =>
    by_cases hz : meth = []
    · have q0 : ((meth.length : Int) == 0) = true := by rw [hz]; rfl
      have hno : Cn.none_ (Cn.C.mk true closed false meth many buf kind len dec 0) := ⟨rfl, hz⟩
      have hnw : ¬ Cn.wait (Cn.C.mk true closed false meth many buf kind len dec 0) := fun h => h.1 hno
      have hse : Cn.sE (Cn.C.mk true closed false meth many buf kind len dec 0) = 6 := by unfold Cn.sE; rw [if_pos hno]
      replace hz := Lib.hid hz
      replace hno := Lib.hid hno
      replace hnw := Lib.hid hnw
      replace hse := Lib.hid hse
      have c0 := hC2.out.cell 0
      have c3 := hC2.out.cell 3
      have c9 := hC2.out.cell 9
      have cf9 := hC2.out.frozen 9
      go_upto_region 6 with (fail)
      clear c0 c3 c9 cf9
      have hC3 : Blk (w2.setCell ⟨g, 9, none⟩ (.iface 57 (.int .i64 6))) g 73 #[.bool true, .bool closed, .bool false, .slice Am meth.length cm, .int .i64 (many : Int), .slice A buf.length cap, .int .i64 kv, .int .i64 lv, vd, .iface 57 (.int .i64 6)] := (hC2.out.set_ 9 (.iface 57 (.int .i64 6)))
      have hO3 : Blk (w2.setCell ⟨g, 9, none⟩ (.iface 57 (.int .i64 6))) (w.heap.size + 1) 77 #[.int .i64 1, .string ⟨#[]⟩, .string ⟨#[]⟩, .slice none 0 0, .int .i64 0, .slice none 0 0, .slice none 0 0, .slice none 0 0] := (hO2.out.far (p := ⟨g, 9, none⟩) hg2.symm (.iface 57 (.int .i64 6)))
      have hR3 : Blk (w2.setCell ⟨g, 9, none⟩ (.iface 57 (.int .i64 6))) w.heap.size 77 #[.int .i64 0, .string ⟨#[]⟩, .string ⟨#[]⟩, .slice none 0 0, .int .i64 0, .slice none 0 0, .slice none 0 0, .slice none 0 0] := (hR2.out.far (p := ⟨g, 9, none⟩) hg1.symm (.iface 57 (.int .i64 6)))
      have hk3 := (hk2.out.set_ (g := g) (fun _ => rfl) 9 (.iface 57 (.int .i64 6)))
      generalize (w2.setCell ⟨g, 9, none⟩ (.iface 57 (.int .i64 6))) = w3 at *
      replace hC3 := Lib.hid hC3
      replace hO3 := Lib.hid hO3
      replace hR3 := Lib.hid hR3
      replace hk3 := Lib.hid hk3
      have o0 := hO3.out.cell 0
      have o1 := hO3.out.cell 1
      have o2 := hO3.out.cell 2
      have o3 := hO3.out.cell 3
      have o4 := hO3.out.cell 4
      have o5 := hO3.out.cell 5
      have o6 := hO3.out.cell 6
      have o7 := hO3.out.cell 7
      have r0 := hR3.out.cell 0
      have r1 := hR3.out.cell 1
      have r2 := hR3.out.cell 2
      have r3 := hR3.out.cell 3
      have r4 := hR3.out.cell 4
      have r5 := hR3.out.cell 5
      have r6 := hR3.out.cell 6
      have r7 := hR3.out.cell 7
      have rf0 := hR3.out.frozen 0
      have rf1 := hR3.out.frozen 1
      have rf2 := hR3.out.frozen 2
      have rf3 := hR3.out.frozen 3
      have rf4 := hR3.out.frozen 4
      have rf5 := hR3.out.frozen 5
      have rf6 := hR3.out.frozen 6
      have rf7 := hR3.out.frozen 7
      go_wp2
      exact ret_blk rfl rfl rfl (hR3.out.eight (.int .i64 1) (.string ⟨#[]⟩) (.string ⟨#[]⟩) (.slice none 0 0) (.int .i64 0) (.slice none 0 0) (.slice none 0 0) (.slice none 0 0)) Tryz.underlying77 rfl (by kernel_rfl) (Cn.StartR.bad hnw.out hse.out (by decide) hF.out hlt.out (hk3.out.eight (Nat.le_refl _) (.int .i64 1) (.string ⟨#[]⟩) (.string ⟨#[]⟩) (.slice none 0 0) (.int .i64 0) (.slice none 0 0) (.slice none 0 0) (.slice none 0 0)) (hC3.out.far8 hg1 (.int .i64 1) (.string ⟨#[]⟩) (.string ⟨#[]⟩) (.slice none 0 0) (.int .i64 0) (.slice none 0 0) (.slice none 0 0) (.slice none 0 0)) (.int .i64 1) (.string ⟨#[]⟩) (.string ⟨#[]⟩) (.slice none 0 0) (.int .i64 0) (.slice none 0 0) (.slice none 0 0) (.slice none 0 0) ⟨_, _, _, _, _, _, _, _, _, _, rfl⟩)
    · have q0 : ((meth.length : Int) == 0) = false := beq_false_of_ne (fun e => hz (List.eq_nil_of_length_eq_zero (by omega)))
      have hno : ¬ Cn.none_ (Cn.C.mk true closed false meth many buf kind len dec 0) := fun h => hz h.2
      replace hz := Lib.hid hz
      have hhE : Cn.hE (Cn.C.mk true closed false meth many buf kind len dec 0) = rrE buf := rfl
      replace hno := Lib.hid hno
      have hrd := Lib.hid (rdresp_own buf A cap w2 hbuf2.out hm hc0.out hM2.out)
      have c0 := hC2.out.cell 0
      have c3 := hC2.out.cell 3
      have c5 := hC2.out.cell 5
      go_wp2_with fail
      refine hrd.out.mono ?_
      rintro e w3 ⟨h3, hb3⟩
      clear c0 c3 c5
      have hC3 := Lib.hid (hC2.out.below hb3)
      have hO3 := Lib.hid (hO2.out.below hb3)
      have hR3 := Lib.hid (hR2.out.below hb3)
      have hk3 := Lib.hid (hk2.out.below hb3)
      have hms3 := Lib.hid (hms2.out.below hb3)
      have hW3 : w2.heap.size ≤ w3.heap.size := hb3.size
      have hW2 : w.heap.size ≤ w2.heap.size := hk2.out.size
      clear hrd hb3
      rcases h3 with ⟨k1, rfl⟩ | ⟨k1, o3, rfl, ho3⟩
      · by_cases k21 : rrE buf = 21
        · have hw : Cn.wait (Cn.C.mk true closed false meth many buf kind len dec 0) := ⟨hno.out, by rw [hhE]; exact k21⟩
          rw [k21]
          replace hw := Lib.hid hw
          replace k21 := Lib.hid k21
          replace k1 := Lib.hid k1
          replace hhE := Lib.hid hhE
          have c9 := hC3.out.cell 9
          have cf9 := hC3.out.frozen 9
          have o4 := hO3.out.cell 4
          have o5 := hO3.out.cell 5
          have of4 := hO3.out.frozen 4
          have of5 := hO3.out.frozen 5
          go_upto_region 9 with (fail)
          clear c9 cf9 o4 o5 of4 of5
          have hC4 : Blk (((w3.setCell ⟨w.heap.size + 1, 4, none⟩ (.int .i64 0)).setCell ⟨w.heap.size + 1, 5, none⟩ (.slice none 0 0)).setCell ⟨g, 9, none⟩ (.iface 57 (.int .i64 21))) g 73 #[.bool true, .bool closed, .bool false, .slice Am meth.length cm, .int .i64 (many : Int), .slice A buf.length cap, .int .i64 kv, .int .i64 lv, vd, .iface 57 (.int .i64 21)] := (((hC3.out.far (p := ⟨w.heap.size + 1, 4, none⟩) hg2 (.int .i64 0)).far (p := ⟨w.heap.size + 1, 5, none⟩) hg2 (.slice none 0 0)).set_ 9 (.iface 57 (.int .i64 21)))
          have hO4 : Blk (((w3.setCell ⟨w.heap.size + 1, 4, none⟩ (.int .i64 0)).setCell ⟨w.heap.size + 1, 5, none⟩ (.slice none 0 0)).setCell ⟨g, 9, none⟩ (.iface 57 (.int .i64 21))) (w.heap.size + 1) 77 #[.int .i64 1, .string ⟨#[]⟩, .string ⟨#[]⟩, .slice none 0 0, .int .i64 0, .slice none 0 0, .slice none 0 0, .slice none 0 0] := (((hO3.out.set_ 4 (.int .i64 0)).set_ 5 (.slice none 0 0)).far (p := ⟨g, 9, none⟩) hg2.symm (.iface 57 (.int .i64 21)))
          have hR4 : Blk (((w3.setCell ⟨w.heap.size + 1, 4, none⟩ (.int .i64 0)).setCell ⟨w.heap.size + 1, 5, none⟩ (.slice none 0 0)).setCell ⟨g, 9, none⟩ (.iface 57 (.int .i64 21))) w.heap.size 77 #[.int .i64 0, .string ⟨#[]⟩, .string ⟨#[]⟩, .slice none 0 0, .int .i64 0, .slice none 0 0, .slice none 0 0, .slice none 0 0] := (((hR3.out.far (p := ⟨w.heap.size + 1, 4, none⟩) hg3 (.int .i64 0)).far (p := ⟨w.heap.size + 1, 5, none⟩) hg3 (.slice none 0 0)).far (p := ⟨g, 9, none⟩) hg1.symm (.iface 57 (.int .i64 21)))
          have hk4 := (((hk3.out.set_ (g := (w.heap.size + 1)) (fun h => absurd h (by omega)) 4 (.int .i64 0)).set_ (g := (w.heap.size + 1)) (fun h => absurd h (by omega)) 5 (.slice none 0 0)).set_ (g := g) (fun _ => rfl) 9 (.iface 57 (.int .i64 21)))
          generalize (((w3.setCell ⟨w.heap.size + 1, 4, none⟩ (.int .i64 0)).setCell ⟨w.heap.size + 1, 5, none⟩ (.slice none 0 0)).setCell ⟨g, 9, none⟩ (.iface 57 (.int .i64 21))) = w4 at *
          replace hC4 := Lib.hid hC4
          replace hO4 := Lib.hid hO4
          replace hR4 := Lib.hid hR4
          replace hk4 := Lib.hid hk4
          have qe := run_eeq 21 21
          have c9 := hC4.out.cell 9
          have cf9 := hC4.out.frozen 9
          go_upto_region 11 with (fail)
          clear c9 cf9
          clear qe
          have hC5 : Blk (w4.setCell ⟨g, 9, none⟩ (.nilIface)) g 73 #[.bool true, .bool closed, .bool false, .slice Am meth.length cm, .int .i64 (many : Int), .slice A buf.length cap, .int .i64 kv, .int .i64 lv, vd, .nilIface] := (hC4.out.set_ 9 (.nilIface))
          have hO5 : Blk (w4.setCell ⟨g, 9, none⟩ (.nilIface)) (w.heap.size + 1) 77 #[.int .i64 1, .string ⟨#[]⟩, .string ⟨#[]⟩, .slice none 0 0, .int .i64 0, .slice none 0 0, .slice none 0 0, .slice none 0 0] := (hO4.out.far (p := ⟨g, 9, none⟩) hg2.symm (.nilIface))
          have hR5 : Blk (w4.setCell ⟨g, 9, none⟩ (.nilIface)) w.heap.size 77 #[.int .i64 0, .string ⟨#[]⟩, .string ⟨#[]⟩, .slice none 0 0, .int .i64 0, .slice none 0 0, .slice none 0 0, .slice none 0 0] := (hR4.out.far (p := ⟨g, 9, none⟩) hg1.symm (.nilIface))
          have hk5 := (hk4.out.set_ (g := g) (fun _ => rfl) 9 (.nilIface))
          generalize (w4.setCell ⟨g, 9, none⟩ (.nilIface)) = w5 at *
          replace hC5 := Lib.hid hC5
          replace hO5 := Lib.hid hO5
          replace hR5 := Lib.hid hR5
          replace hk5 := Lib.hid hk5
          have o0 := hO5.out.cell 0
          have o1 := hO5.out.cell 1
          have o2 := hO5.out.cell 2
          have o3 := hO5.out.cell 3
          have o4 := hO5.out.cell 4
          have o5 := hO5.out.cell 5
          have o6 := hO5.out.cell 6
          have o7 := hO5.out.cell 7
          have r0 := hR5.out.cell 0
          have r1 := hR5.out.cell 1
          have r2 := hR5.out.cell 2
          have r3 := hR5.out.cell 3
          have r4 := hR5.out.cell 4
          have r5 := hR5.out.cell 5
          have r6 := hR5.out.cell 6
          have r7 := hR5.out.cell 7
          have rf0 := hR5.out.frozen 0
          have rf1 := hR5.out.frozen 1
          have rf2 := hR5.out.frozen 2
          have rf3 := hR5.out.frozen 3
          have rf4 := hR5.out.frozen 4
          have rf5 := hR5.out.frozen 5
          have rf6 := hR5.out.frozen 6
          have rf7 := hR5.out.frozen 7
          go_wp2
          exact ret_blk rfl rfl rfl (hR5.out.eight (.int .i64 1) (.string ⟨#[]⟩) (.string ⟨#[]⟩) (.slice none 0 0) (.int .i64 0) (.slice none 0 0) (.slice none 0 0) (.slice none 0 0)) Tryz.underlying77 rfl (by kernel_rfl) (Cn.StartR.wait hw.out rfl hF.out hlt.out (hk5.out.eight (Nat.le_refl _) (.int .i64 1) (.string ⟨#[]⟩) (.string ⟨#[]⟩) (.slice none 0 0) (.int .i64 0) (.slice none 0 0) (.slice none 0 0) (.slice none 0 0)) (hC5.out.far8 hg1 (.int .i64 1) (.string ⟨#[]⟩) (.string ⟨#[]⟩) (.slice none 0 0) (.int .i64 0) (.slice none 0 0) (.slice none 0 0) (.slice none 0 0)) hL.out (.int .i64 1) (.string ⟨#[]⟩) (.string ⟨#[]⟩) (.slice none 0 0) (.int .i64 0) (.slice none 0 0) (.slice none 0 0) (.slice none 0 0) ⟨_, _, _, _, _, _, _, _, _, _, rfl⟩)
        · have hnw : ¬ Cn.wait (Cn.C.mk true closed false meth many buf kind len dec 0) := fun h => k21 (by have := h.2; rwa [hhE] at this)
          have hse : Cn.sE (Cn.C.mk true closed false meth many buf kind len dec 0) = rrE buf := by unfold Cn.sE; rw [if_neg hno.out, hhE, if_pos k1]
          have q21 : (rrE buf == 21) = false := beq_false_of_ne k21
          generalize rrE buf = E at *
          replace hnw := Lib.hid hnw
          replace hse := Lib.hid hse
          replace hhE := Lib.hid hhE
          replace k21 := Lib.hid k21
          replace k1 := Lib.hid k1
          have c9 := hC3.out.cell 9
          have cf9 := hC3.out.frozen 9
          have o4 := hO3.out.cell 4
          have o5 := hO3.out.cell 5
          have of4 := hO3.out.frozen 4
          have of5 := hO3.out.frozen 5
          go_upto_region 9 with (fail)
          clear c9 cf9 o4 o5 of4 of5
          have hC4 : Blk (((w3.setCell ⟨w.heap.size + 1, 4, none⟩ (.int .i64 0)).setCell ⟨w.heap.size + 1, 5, none⟩ (.slice none 0 0)).setCell ⟨g, 9, none⟩ (.iface 57 (.int .i64 E))) g 73 #[.bool true, .bool closed, .bool false, .slice Am meth.length cm, .int .i64 (many : Int), .slice A buf.length cap, .int .i64 kv, .int .i64 lv, vd, .iface 57 (.int .i64 E)] := (((hC3.out.far (p := ⟨w.heap.size + 1, 4, none⟩) hg2 (.int .i64 0)).far (p := ⟨w.heap.size + 1, 5, none⟩) hg2 (.slice none 0 0)).set_ 9 (.iface 57 (.int .i64 E)))
          have hO4 : Blk (((w3.setCell ⟨w.heap.size + 1, 4, none⟩ (.int .i64 0)).setCell ⟨w.heap.size + 1, 5, none⟩ (.slice none 0 0)).setCell ⟨g, 9, none⟩ (.iface 57 (.int .i64 E))) (w.heap.size + 1) 77 #[.int .i64 1, .string ⟨#[]⟩, .string ⟨#[]⟩, .slice none 0 0, .int .i64 0, .slice none 0 0, .slice none 0 0, .slice none 0 0] := (((hO3.out.set_ 4 (.int .i64 0)).set_ 5 (.slice none 0 0)).far (p := ⟨g, 9, none⟩) hg2.symm (.iface 57 (.int .i64 E)))
          have hR4 : Blk (((w3.setCell ⟨w.heap.size + 1, 4, none⟩ (.int .i64 0)).setCell ⟨w.heap.size + 1, 5, none⟩ (.slice none 0 0)).setCell ⟨g, 9, none⟩ (.iface 57 (.int .i64 E))) w.heap.size 77 #[.int .i64 0, .string ⟨#[]⟩, .string ⟨#[]⟩, .slice none 0 0, .int .i64 0, .slice none 0 0, .slice none 0 0, .slice none 0 0] := (((hR3.out.far (p := ⟨w.heap.size + 1, 4, none⟩) hg3 (.int .i64 0)).far (p := ⟨w.heap.size + 1, 5, none⟩) hg3 (.slice none 0 0)).far (p := ⟨g, 9, none⟩) hg1.symm (.iface 57 (.int .i64 E)))
          have hk4 := (((hk3.out.set_ (g := (w.heap.size + 1)) (fun h => absurd h (by omega)) 4 (.int .i64 0)).set_ (g := (w.heap.size + 1)) (fun h => absurd h (by omega)) 5 (.slice none 0 0)).set_ (g := g) (fun _ => rfl) 9 (.iface 57 (.int .i64 E)))
          generalize (((w3.setCell ⟨w.heap.size + 1, 4, none⟩ (.int .i64 0)).setCell ⟨w.heap.size + 1, 5, none⟩ (.slice none 0 0)).setCell ⟨g, 9, none⟩ (.iface 57 (.int .i64 E))) = w4 at *
          replace hC4 := Lib.hid hC4
          replace hO4 := Lib.hid hO4
          replace hR4 := Lib.hid hR4
          replace hk4 := Lib.hid hk4
          have qe := run_eeq E 21
          have c9 := hC4.out.cell 9
          have o0 := hO4.out.cell 0
          have o1 := hO4.out.cell 1
          have o2 := hO4.out.cell 2
          have o3 := hO4.out.cell 3
          have o4 := hO4.out.cell 4
          have o5 := hO4.out.cell 5
          have o6 := hO4.out.cell 6
          have o7 := hO4.out.cell 7
          have r0 := hR4.out.cell 0
          have r1 := hR4.out.cell 1
          have r2 := hR4.out.cell 2
          have r3 := hR4.out.cell 3
          have r4 := hR4.out.cell 4
          have r5 := hR4.out.cell 5
          have r6 := hR4.out.cell 6
          have r7 := hR4.out.cell 7
          have rf0 := hR4.out.frozen 0
          have rf1 := hR4.out.frozen 1
          have rf2 := hR4.out.frozen 2
          have rf3 := hR4.out.frozen 3
          have rf4 := hR4.out.frozen 4
          have rf5 := hR4.out.frozen 5
          have rf6 := hR4.out.frozen 6
          have rf7 := hR4.out.frozen 7
          go_wp2
          exact ret_blk rfl rfl rfl (hR4.out.eight (.int .i64 1) (.string ⟨#[]⟩) (.string ⟨#[]⟩) (.slice none 0 0) (.int .i64 0) (.slice none 0 0) (.slice none 0 0) (.slice none 0 0)) Tryz.underlying77 rfl (by kernel_rfl) (Cn.StartR.bad hnw.out hse.out k1.out hF.out hlt.out (hk4.out.eight (Nat.le_refl _) (.int .i64 1) (.string ⟨#[]⟩) (.string ⟨#[]⟩) (.slice none 0 0) (.int .i64 0) (.slice none 0 0) (.slice none 0 0) (.slice none 0 0)) (hC4.out.far8 hg1 (.int .i64 1) (.string ⟨#[]⟩) (.string ⟨#[]⟩) (.slice none 0 0) (.int .i64 0) (.slice none 0 0) (.slice none 0 0) (.slice none 0 0)) (.int .i64 1) (.string ⟨#[]⟩) (.string ⟨#[]⟩) (.slice none 0 0) (.int .i64 0) (.slice none 0 0) (.slice none 0 0) (.slice none 0 0) ⟨_, _, _, _, _, _, _, _, _, _, rfl⟩)
      · obtain ⟨N, hN, hN4, hNl⟩ := Cn.hd_len (c := (Cn.C.mk true closed false meth many buf kind len dec 0)) (hhE.trans k1)
        replace hN : Hd.endF buf = (N : Int) := hN
        rw [hN]
        have hFew := Cn.few_rr k1
        have hEv : Cn.hEv (Cn.C.mk true closed false meth many buf kind len dec 0) = Cn.evResp (rrS buf) (rrL buf) := rfl
        have hFr : Cn.hFr (Cn.C.mk true closed false meth many buf kind len dec 0) = respF (meth.headD []) (rrS buf) (frame 4 (rrL buf)) := rfl
        have hse0 : ∀ n, (if 64 ≤ many then (5 : Int) else (Cn.hFr (Cn.C.mk true closed false meth many buf kind len dec 0)).2) = n → Cn.sE (Cn.C.mk true closed false meth many buf kind len dec 0) = n := fun n h => by
          unfold Cn.sE; rw [if_neg hno.out, hhE, if_neg (fun h => h k1)]; exact h
        have hnw : ¬ Cn.wait (Cn.C.mk true closed false meth many buf kind len dec 0) := fun h => by have := h.2; rw [hhE, k1] at this; cases this
        have hr3 := Rd.own ho3
        generalize rrL buf = Lx at *
        have hinf : Cn.inf (Cn.C.mk true closed false meth many buf kind len dec 0) = decide (rrS buf < 200) := rfl
        generalize rrS buf = S at *
        obtain ⟨A3, c3, rfl, -, -, -⟩ := id hr3
        have hbl1 : g < w2.heap.size := hC2.out.lt
        have hbl2 : w.heap.size + 1 < w2.heap.size := hO2.out.lt
        have hoff : Off (fun k => k < w2.heap.size) (.slice A3 Lx.length c3) := fun k hk h => by have := (World.ownsRow.lt ho3 k hk).1; omega
        have hoR : ∀ k, (Value.slice A3 Lx.length c3).ownBlock = some k → w2.heap.size ≤ k ∧ k < w3.heap.size := fun k hk => World.ownsRow.lt ho3 k hk
        have hl3 := Lib.hid (Kp.refl (fun k => k < w2.heap.size) w3)
        clear ho3
        replace hoff := Lib.hid hoff
        replace hoR := Lib.hid hoR
        replace hr3 := Lib.hid hr3
        replace hN := Lib.hid hN
        replace hhE := Lib.hid hhE
        replace k1 := Lib.hid k1
        replace hnw := Lib.hid hnw
        replace hse0 := Lib.hid hse0
        replace hFr := Lib.hid hFr
        replace hinf := Lib.hid hinf
        have hev := Lib.hid (fun (P : Nat → Prop) (w9 : World) (h9 : Rd w9 2 (.slice A3 Lx.length c3) Lx.length (prs Lx)) (hP : On P (.slice A3 Lx.length c3)) => show Cn.EvC w9 P (Cn.hEv (Cn.C.mk true closed false meth many buf kind len dec 0)) _ from by rw [hEv]; exact Cn.evC_resp h9 hP)
        have hbl3 : w.heap.size < w2.heap.size := hR2.out.lt
        replace hEv := Lib.hid hEv
        have c9 := hC3.out.cell 9
        have cf9 := hC3.out.frozen 9
        have o4 := hO3.out.cell 4
        have o5 := hO3.out.cell 5
        have of4 := hO3.out.frozen 4
        have of5 := hO3.out.frozen 5
        go_upto_region 9 with (fail)
        clear c9 cf9 o4 o5 of4 of5
        have hC4 : Blk (((w3.setCell ⟨w.heap.size + 1, 4, none⟩ (.int .i64 S)).setCell ⟨w.heap.size + 1, 5, none⟩ (.slice A3 Lx.length c3)).setCell ⟨g, 9, none⟩ (.nilIface)) g 73 #[.bool true, .bool closed, .bool false, .slice Am meth.length cm, .int .i64 (many : Int), .slice A buf.length cap, .int .i64 kv, .int .i64 lv, vd, .nilIface] := (((hC3.out.far (p := ⟨w.heap.size + 1, 4, none⟩) hg2 (.int .i64 S)).far (p := ⟨w.heap.size + 1, 5, none⟩) hg2 (.slice A3 Lx.length c3)).set_ 9 (.nilIface))
        have hO4 : Blk (((w3.setCell ⟨w.heap.size + 1, 4, none⟩ (.int .i64 S)).setCell ⟨w.heap.size + 1, 5, none⟩ (.slice A3 Lx.length c3)).setCell ⟨g, 9, none⟩ (.nilIface)) (w.heap.size + 1) 77 #[.int .i64 1, .string ⟨#[]⟩, .string ⟨#[]⟩, .slice none 0 0, .int .i64 S, .slice A3 Lx.length c3, .slice none 0 0, .slice none 0 0] := (((hO3.out.set_ 4 (.int .i64 S)).set_ 5 (.slice A3 Lx.length c3)).far (p := ⟨g, 9, none⟩) hg2.symm (.nilIface))
        have hR4 : Blk (((w3.setCell ⟨w.heap.size + 1, 4, none⟩ (.int .i64 S)).setCell ⟨w.heap.size + 1, 5, none⟩ (.slice A3 Lx.length c3)).setCell ⟨g, 9, none⟩ (.nilIface)) w.heap.size 77 #[.int .i64 0, .string ⟨#[]⟩, .string ⟨#[]⟩, .slice none 0 0, .int .i64 0, .slice none 0 0, .slice none 0 0, .slice none 0 0] := (((hR3.out.far (p := ⟨w.heap.size + 1, 4, none⟩) hg3 (.int .i64 S)).far (p := ⟨w.heap.size + 1, 5, none⟩) hg3 (.slice A3 Lx.length c3)).far (p := ⟨g, 9, none⟩) hg1.symm (.nilIface))
        have hk4 := (((hk3.out.set_ (g := (w.heap.size + 1)) (fun h => absurd h (by omega)) 4 (.int .i64 S)).set_ (g := (w.heap.size + 1)) (fun h => absurd h (by omega)) 5 (.slice A3 Lx.length c3)).set_ (g := g) (fun _ => rfl) 9 (.nilIface))
        have hl4 := (((hl3.out.set_ (g := (w.heap.size + 1)) (fun _ => hbl2) 4 (.int .i64 S)).set_ (g := (w.heap.size + 1)) (fun _ => hbl2) 5 (.slice A3 Lx.length c3)).set_ (g := g) (fun _ => hbl1) 9 (.nilIface))
        generalize (((w3.setCell ⟨w.heap.size + 1, 4, none⟩ (.int .i64 S)).setCell ⟨w.heap.size + 1, 5, none⟩ (.slice A3 Lx.length c3)).setCell ⟨g, 9, none⟩ (.nilIface)) = w4 at *
        replace hC4 := Lib.hid hC4
        replace hO4 := Lib.hid hO4
        replace hR4 := Lib.hid hR4
        replace hk4 := Lib.hid hk4
        replace hl4 := Lib.hid hl4
        have qe := run_neq 21
        by_cases hm64 : 64 ≤ many
        · have hse := Lib.hid (hse0.out 5 (if_pos hm64))
          have g64 : (64 : Int) ≤ (many : Int) := by omega
          replace hm64 := Lib.hid hm64
          have c4 := hC4.out.cell 4
          have c9 := hC4.out.cell 9
          have cf9 := hC4.out.frozen 9
          go_upto_region 14 with (fail)
          clear c4 c9 cf9
          have hC5 : Blk (w4.setCell ⟨g, 9, none⟩ (.iface 57 (.int .i64 5))) g 73 #[.bool true, .bool closed, .bool false, .slice Am meth.length cm, .int .i64 (many : Int), .slice A buf.length cap, .int .i64 kv, .int .i64 lv, vd, .iface 57 (.int .i64 5)] := (hC4.out.set_ 9 (.iface 57 (.int .i64 5)))
          have hO5 : Blk (w4.setCell ⟨g, 9, none⟩ (.iface 57 (.int .i64 5))) (w.heap.size + 1) 77 #[.int .i64 1, .string ⟨#[]⟩, .string ⟨#[]⟩, .slice none 0 0, .int .i64 S, .slice A3 Lx.length c3, .slice none 0 0, .slice none 0 0] := (hO4.out.far (p := ⟨g, 9, none⟩) hg2.symm (.iface 57 (.int .i64 5)))
          have hR5 : Blk (w4.setCell ⟨g, 9, none⟩ (.iface 57 (.int .i64 5))) w.heap.size 77 #[.int .i64 0, .string ⟨#[]⟩, .string ⟨#[]⟩, .slice none 0 0, .int .i64 0, .slice none 0 0, .slice none 0 0, .slice none 0 0] := (hR4.out.far (p := ⟨g, 9, none⟩) hg1.symm (.iface 57 (.int .i64 5)))
          have hk5 := (hk4.out.set_ (g := g) (fun _ => rfl) 9 (.iface 57 (.int .i64 5)))
          have hl5 := (hl4.out.set_ (g := g) (fun _ => hbl1) 9 (.iface 57 (.int .i64 5)))
          generalize (w4.setCell ⟨g, 9, none⟩ (.iface 57 (.int .i64 5))) = w5 at *
          replace hC5 := Lib.hid hC5
          replace hO5 := Lib.hid hO5
          replace hR5 := Lib.hid hR5
          replace hk5 := Lib.hid hk5
          replace hl5 := Lib.hid hl5
          have c9 := hC5.out.cell 9
          have o0 := hO5.out.cell 0
          have o1 := hO5.out.cell 1
          have o2 := hO5.out.cell 2
          have o3 := hO5.out.cell 3
          have o4 := hO5.out.cell 4
          have o5 := hO5.out.cell 5
          have o6 := hO5.out.cell 6
          have o7 := hO5.out.cell 7
          have r0 := hR5.out.cell 0
          have r1 := hR5.out.cell 1
          have r2 := hR5.out.cell 2
          have r3 := hR5.out.cell 3
          have r4 := hR5.out.cell 4
          have r5 := hR5.out.cell 5
          have r6 := hR5.out.cell 6
          have r7 := hR5.out.cell 7
          have rf0 := hR5.out.frozen 0
          have rf1 := hR5.out.frozen 1
          have rf2 := hR5.out.frozen 2
          have rf3 := hR5.out.frozen 3
          have rf4 := hR5.out.frozen 4
          have rf5 := hR5.out.frozen 5
          have rf6 := hR5.out.frozen 6
          have rf7 := hR5.out.frozen 7
          go_wp2
          exact ret_blk rfl rfl rfl (hR5.out.eight (.int .i64 1) (.string ⟨#[]⟩) (.string ⟨#[]⟩) (.slice none 0 0) (.int .i64 S) (.slice A3 Lx.length c3) (.slice none 0 0) (.slice none 0 0)) Tryz.underlying77 rfl (by kernel_rfl) (Cn.StartR.bad hnw.out hse.out (by decide) hF.out hlt.out (hk5.out.eight (Nat.le_refl _) (.int .i64 1) (.string ⟨#[]⟩) (.string ⟨#[]⟩) (.slice none 0 0) (.int .i64 S) (.slice A3 Lx.length c3) (.slice none 0 0) (.slice none 0 0)) (hC5.out.far8 hg1 (.int .i64 1) (.string ⟨#[]⟩) (.string ⟨#[]⟩) (.slice none 0 0) (.int .i64 S) (.slice A3 Lx.length c3) (.slice none 0 0) (.slice none 0 0)) (.int .i64 1) (.string ⟨#[]⟩) (.string ⟨#[]⟩) (.slice none 0 0) (.int .i64 S) (.slice A3 Lx.length c3) (.slice none 0 0) (.slice none 0 0) ⟨_, _, _, _, _, _, _, _, _, _, rfl⟩)
        · have g64 : ¬ (64 : Int) ≤ (many : Int) := by omega
          have hse1 := Lib.hid (fun n (h : (Cn.hFr (Cn.C.mk true closed false meth many buf kind len dec 0)).2 = n) => hse0.out n ((if_neg hm64).trans h))
          replace hm64 := Lib.hid hm64
          have hml : 0 < meth.length := Nat.pos_of_ne_zero (fun e => hz.out (List.eq_nil_of_length_eq_zero e))
          have hms4 := hmeth.out.kp (hL.out.methF.off fun k h e => h.2 e) hk4.out
          obtain ⟨Ax, cx, ex, -, -, rx⟩ := hms4
          cases ex
          obtain ⟨bm, om, rfl, hbm, xm⟩ := rx hml
          have dm : w4.cell? ⟨bm, om + 0, none⟩ = some (.string (str (meth.headD []))) := xm 0 _ (by
            cases meth with
            | nil => cases hml
            | cons a r => rfl)
          rw [Nat.add_zero] at dm
          generalize meth.headD [] = m0 at *
          have dmB : ∀ w', Below w4.heap.size w4 w' → w'.cell? ⟨bm, om, none⟩ = some (.string (str m0)) := fun w' hb => (hb.cell (p := ⟨bm, om, none⟩) hbm).trans dm
          have hbg : g ≠ bm := fun e => (hL.out.methF bm rfl).2 e.symm
          clear dm xm rx
          replace dmB := Lib.hid dmB
          have hr4 := Lib.hid (hr3.out.kp hoff.out hl4.out)
          have hOf := Lib.hid (fun w' (hb : Below w4.heap.size w4 w') => of_response Lx m0 S A3 c3 w' hFew (hr4.out.below hb))
          replace hFew := Lib.hid hFew
          rw [← hFr.out] at hOf
          obtain ⟨fk, fl, fe, hfr⟩ : ∃ fk fl fe, Cn.hFr (Cn.C.mk true closed false meth many buf kind len dec 0) = ((fk, fl), fe) := ⟨_, _, _, rfl⟩
          rw [hfr] at hOf
          rw [show frameV (((fk, fl), fe) : Fr.Out) = .agg #[.int .i64 (fk : Int), .int .i64 (fl : Int)] from rfl, show (((fk, fl), fe) : Fr.Out).2 = fe from rfl] at hOf
          by_cases hfe : fe = 0
          · rw [show errV fe = .nilIface from by rw [hfe]; rfl] at hOf
            have hse := Lib.hid (hse1.out 0 (by rw [hfr]; exact hfe))
            have hFr := Lib.hid hfr
            clear hfr
            replace hfe := Lib.hid hfe
            have c0 := hC4.out.cell 0
            have c4 := hC4.out.cell 4
            have c9 := hC4.out.cell 9
            go_upto_region 17 with (fail)
            clear c0 c4 c9
            go_cut [] (fun wx => Blk wx g 73 #[.bool true, .bool closed, .bool false, .slice (some ⟨bm, om, none⟩) meth.length cm, .int .i64 (many : Int), .slice A buf.length cap, .int .i64 (fk : Int), .int .i64 (fl : Int), vd, .nilIface] ∧ Blk wx (w.heap.size + 1) 77 #[.int .i64 1, .string ⟨#[]⟩, .string ⟨#[]⟩, .slice none 0 0, .int .i64 S, .slice A3 Lx.length c3, .slice none 0 0, .slice none 0 0] ∧ Blk wx w.heap.size 77 #[.int .i64 0, .string ⟨#[]⟩, .string ⟨#[]⟩, .slice none 0 0, .int .i64 0, .slice none 0 0, .slice none 0 0, .slice none 0 0] ∧ Kp (· = g) w wx ∧ Kp (fun k => k < w2.heap.size) w3 wx)
            case first =>
              have hS := Lib.hid (fun w' (hb : Below w4.heap.size w4 w') => show (w').cell? ⟨g, 3, none⟩ = some (.slice (some ⟨bm, om, none⟩) meth.length cm) ∧ (w').cell? ⟨bm, om, none⟩ = some (.string (str m0)) ∧ (w').cell? ⟨w.heap.size + 1, 4, none⟩ = some (.int .i64 S) ∧ (w').cell? ⟨w.heap.size + 1, 5, none⟩ = some (.slice A3 Lx.length c3) from ⟨(hC4.out.below hb).cell 3, dmB.out _ hb, (hO4.out.below hb).cell 4, (hO4.out.below hb).cell 5⟩)
              have hS6 := Lib.hid (fun w' (hb : Below w4.heap.size w4 w') => show (((w'.setCell ⟨g, 6, none⟩ (.int .i64 (fk : Int))).setCell ⟨g, 7, none⟩ (.int .i64 (fl : Int)))).cell? ⟨g, 3, none⟩ = some (.slice (some ⟨bm, om, none⟩) meth.length cm) ∧ (((w'.setCell ⟨g, 6, none⟩ (.int .i64 (fk : Int))).setCell ⟨g, 7, none⟩ (.int .i64 (fl : Int)))).cell? ⟨bm, om, none⟩ = some (.string (str m0)) ∧ (((w'.setCell ⟨g, 6, none⟩ (.int .i64 (fk : Int))).setCell ⟨g, 7, none⟩ (.int .i64 (fl : Int)))).cell? ⟨w.heap.size + 1, 4, none⟩ = some (.int .i64 S) ∧ (((w'.setCell ⟨g, 6, none⟩ (.int .i64 (fk : Int))).setCell ⟨g, 7, none⟩ (.int .i64 (fl : Int)))).cell? ⟨w.heap.size + 1, 5, none⟩ = some (.slice A3 Lx.length c3) from ⟨(((hC4.out.below hb).set_ 6 (.int .i64 (fk : Int))).set_ 7 (.int .i64 (fl : Int))).cell 3, ((World.cell?_setCell_far _ ⟨g, 7, none⟩ ⟨bm, om, none⟩ (.int .i64 (fl : Int)) hbg).trans (((World.cell?_setCell_far _ ⟨g, 6, none⟩ ⟨bm, om, none⟩ (.int .i64 (fk : Int)) hbg).trans (dmB.out _ hb)))), (((hO4.out.below hb).far (p := ⟨g, 6, none⟩) hg2.symm (.int .i64 (fk : Int))).far (p := ⟨g, 7, none⟩) hg2.symm (.int .i64 (fl : Int))).cell 4, (((hO4.out.below hb).far (p := ⟨g, 6, none⟩) hg2.symm (.int .i64 (fk : Int))).far (p := ⟨g, 7, none⟩) hg2.symm (.int .i64 (fl : Int))).cell 5⟩)
              have hS9 := Lib.hid (fun w' (hb : Below w4.heap.size w4 w') => show ((((w'.setCell ⟨g, 6, none⟩ (.int .i64 (fk : Int))).setCell ⟨g, 7, none⟩ (.int .i64 (fl : Int))).setCell ⟨g, 9, none⟩ (.nilIface))).cell? ⟨g, 3, none⟩ = some (.slice (some ⟨bm, om, none⟩) meth.length cm) ∧ ((((w'.setCell ⟨g, 6, none⟩ (.int .i64 (fk : Int))).setCell ⟨g, 7, none⟩ (.int .i64 (fl : Int))).setCell ⟨g, 9, none⟩ (.nilIface))).cell? ⟨bm, om, none⟩ = some (.string (str m0)) ∧ ((((w'.setCell ⟨g, 6, none⟩ (.int .i64 (fk : Int))).setCell ⟨g, 7, none⟩ (.int .i64 (fl : Int))).setCell ⟨g, 9, none⟩ (.nilIface))).cell? ⟨w.heap.size + 1, 4, none⟩ = some (.int .i64 S) ∧ ((((w'.setCell ⟨g, 6, none⟩ (.int .i64 (fk : Int))).setCell ⟨g, 7, none⟩ (.int .i64 (fl : Int))).setCell ⟨g, 9, none⟩ (.nilIface))).cell? ⟨w.heap.size + 1, 5, none⟩ = some (.slice A3 Lx.length c3) from ⟨((((hC4.out.below hb).set_ 6 (.int .i64 (fk : Int))).set_ 7 (.int .i64 (fl : Int))).set_ 9 (.nilIface)).cell 3, ((World.cell?_setCell_far _ ⟨g, 9, none⟩ ⟨bm, om, none⟩ (.nilIface) hbg).trans (((World.cell?_setCell_far _ ⟨g, 7, none⟩ ⟨bm, om, none⟩ (.int .i64 (fl : Int)) hbg).trans (((World.cell?_setCell_far _ ⟨g, 6, none⟩ ⟨bm, om, none⟩ (.int .i64 (fk : Int)) hbg).trans (dmB.out _ hb)))))), ((((hO4.out.below hb).far (p := ⟨g, 6, none⟩) hg2.symm (.int .i64 (fk : Int))).far (p := ⟨g, 7, none⟩) hg2.symm (.int .i64 (fl : Int))).far (p := ⟨g, 9, none⟩) hg2.symm (.nilIface)).cell 4, ((((hO4.out.below hb).far (p := ⟨g, 6, none⟩) hg2.symm (.int .i64 (fk : Int))).far (p := ⟨g, 7, none⟩) hg2.symm (.int .i64 (fl : Int))).far (p := ⟨g, 9, none⟩) hg2.symm (.nilIface)).cell 5⟩)
              go_wp2_with fail
              go_region_held3 (fun w' => (w').cell? ⟨g, 3, none⟩ = some (.slice (some ⟨bm, om, none⟩) meth.length cm) ∧ (w').cell? ⟨bm, om, none⟩ = some (.string (str m0)) ∧ (w').cell? ⟨w.heap.size + 1, 4, none⟩ = some (.int .i64 S) ∧ (w').cell? ⟨w.heap.size + 1, 5, none⟩ = some (.slice A3 Lx.length c3))
                (first | exact hS.out _ (by first | with_reducible exact Below.refl _ _ | with_reducible exact (Below.refl _ _).drew | with_reducible assumption | with_reducible exact Below.drew (by with_reducible assumption)) | with_reducible exact hS6.out _ (by with_reducible assumption) | with_reducible exact hS9.out _ (by with_reducible assumption))
                (first | (go_at_call 37; refine (hOf.out _ (by first | with_reducible exact Below.refl _ _ | with_reducible exact (Below.refl _ _).drew | with_reducible assumption | with_reducible exact Below.drew (by with_reducible assumption))).mono ?_; rintro e w5 ⟨rfl, hb5⟩; (first | have hb6 : Below w4.heap.size w4 w5 := hb5 | have hb6 : Below w4.heap.size w4 w5 := below_of_drew hb5); have z6 := (hC4.out.below hb6).cell 6; have z7 := (hC4.out.below hb6).cell 7; have z9 := (hC4.out.below hb6).cell 9; have y6 := (hC4.out.below hb6).frozen 6; have y7 := (hC4.out.below hb6).frozen 7; have y9 := (hC4.out.below hb6).frozen 9))
              all_goals
                go_wp2_with fail
                go_meet
                exact ⟨((((hC4.out.below hb6).set_ 6 (.int .i64 (fk : Int))).set_ 7 (.int .i64 (fl : Int))).set_ 9 (.nilIface)), ((((hO4.out.below hb6).far (p := ⟨g, 6, none⟩) hg2.symm (.int .i64 (fk : Int))).far (p := ⟨g, 7, none⟩) hg2.symm (.int .i64 (fl : Int))).far (p := ⟨g, 9, none⟩) hg2.symm (.nilIface)), ((((hR4.out.below hb6).far (p := ⟨g, 6, none⟩) hg1.symm (.int .i64 (fk : Int))).far (p := ⟨g, 7, none⟩) hg1.symm (.int .i64 (fl : Int))).far (p := ⟨g, 9, none⟩) hg1.symm (.nilIface)), ((((hk4.out.below hb6).set_ (g := g) (fun _ => rfl) 6 (.int .i64 (fk : Int))).set_ (g := g) (fun _ => rfl) 7 (.int .i64 (fl : Int))).set_ (g := g) (fun _ => rfl) 9 (.nilIface)), ((((hl4.out.below hb6).set_ (g := g) (fun _ => hbl1) 6 (.int .i64 (fk : Int))).set_ (g := g) (fun _ => hbl1) 7 (.int .i64 (fl : Int))).set_ (g := g) (fun _ => hbl1) 9 (.nilIface))⟩
            case rest =>
              obtain ⟨hC5, hO5, hR5, hk5, hl5⟩ := hcut
              rename World => w5
              replace hC5 := Lib.hid hC5
              replace hO5 := Lib.hid hO5
              replace hR5 := Lib.hid hR5
              replace hk5 := Lib.hid hk5
              replace hl5 := Lib.hid hl5
              clear hOf dmB hr4
              have c4 := hC5.out.cell 4
              have c9 := hC5.out.cell 9
              have cf4 := hC5.out.frozen 4
              go_upto_region 22 with (fail)
              clear c4 c9 cf4
              have hC6 : Blk (w5.setCell ⟨g, 4, none⟩ (.int .i64 ((many : Int) + 1))) g 73 #[.bool true, .bool closed, .bool false, .slice (some ⟨bm, om, none⟩) meth.length cm, .int .i64 ((many : Int) + 1), .slice A buf.length cap, .int .i64 (fk : Int), .int .i64 (fl : Int), vd, .nilIface] := (hC5.out.set_ 4 (.int .i64 ((many : Int) + 1)))
              have hO6 : Blk (w5.setCell ⟨g, 4, none⟩ (.int .i64 ((many : Int) + 1))) (w.heap.size + 1) 77 #[.int .i64 1, .string ⟨#[]⟩, .string ⟨#[]⟩, .slice none 0 0, .int .i64 S, .slice A3 Lx.length c3, .slice none 0 0, .slice none 0 0] := (hO5.out.far (p := ⟨g, 4, none⟩) hg2.symm (.int .i64 ((many : Int) + 1)))
              have hR6 : Blk (w5.setCell ⟨g, 4, none⟩ (.int .i64 ((many : Int) + 1))) w.heap.size 77 #[.int .i64 0, .string ⟨#[]⟩, .string ⟨#[]⟩, .slice none 0 0, .int .i64 0, .slice none 0 0, .slice none 0 0, .slice none 0 0] := (hR5.out.far (p := ⟨g, 4, none⟩) hg1.symm (.int .i64 ((many : Int) + 1)))
              have hk6 := (hk5.out.set_ (g := g) (fun _ => rfl) 4 (.int .i64 ((many : Int) + 1)))
              have hl6 := (hl5.out.set_ (g := g) (fun _ => hbl1) 4 (.int .i64 ((many : Int) + 1)))
              generalize (w5.setCell ⟨g, 4, none⟩ (.int .i64 ((many : Int) + 1))) = w6 at *
              replace hC6 := Lib.hid hC6
              replace hO6 := Lib.hid hO6
              replace hR6 := Lib.hid hR6
              replace hk6 := Lib.hid hk6
              replace hl6 := Lib.hid hl6
              obtain ⟨b0, ob, hA⟩ : ∃ b o, A = some ⟨b, o, none⟩ := by
                obtain ⟨Ax, cx, ex, -, -, rx⟩ := id hbuf.out
                cases ex
                obtain ⟨b, o, e, -⟩ := rx (by omega)
                exact ⟨b, o, e⟩
              subst hA
              by_cases hcp : N = cap
              · have hcut : Hid (Cn.CutB (some ⟨b0, ob, none⟩) buf.length cap N (.slice (some ⟨b0, ob, none⟩) 0 0)) := ⟨b0, ob, rfl, hNl, hcap, .inr ⟨hcp, rfl⟩⟩
                obtain rfl : cap = buf.length := by omega
                obtain rfl : N = buf.length := hcp
                have c5 := hC6.out.cell 5
                have cf5 := hC6.out.frozen 5
                go_upto_region 23 with (fail)
                clear c5 cf5
                have hC7 : Blk (w6.setCell ⟨g, 5, none⟩ (.slice (some ⟨b0, ob, none⟩) 0 0)) g 73 #[.bool true, .bool closed, .bool false, .slice (some ⟨bm, om, none⟩) meth.length cm, .int .i64 ((many : Int) + 1), .slice (some ⟨b0, ob, none⟩) 0 0, .int .i64 (fk : Int), .int .i64 (fl : Int), vd, .nilIface] := (hC6.out.set_ 5 (.slice (some ⟨b0, ob, none⟩) 0 0))
                have hO7 : Blk (w6.setCell ⟨g, 5, none⟩ (.slice (some ⟨b0, ob, none⟩) 0 0)) (w.heap.size + 1) 77 #[.int .i64 1, .string ⟨#[]⟩, .string ⟨#[]⟩, .slice none 0 0, .int .i64 S, .slice A3 Lx.length c3, .slice none 0 0, .slice none 0 0] := (hO6.out.far (p := ⟨g, 5, none⟩) hg2.symm (.slice (some ⟨b0, ob, none⟩) 0 0))
                have hR7 : Blk (w6.setCell ⟨g, 5, none⟩ (.slice (some ⟨b0, ob, none⟩) 0 0)) w.heap.size 77 #[.int .i64 0, .string ⟨#[]⟩, .string ⟨#[]⟩, .slice none 0 0, .int .i64 0, .slice none 0 0, .slice none 0 0, .slice none 0 0] := (hR6.out.far (p := ⟨g, 5, none⟩) hg1.symm (.slice (some ⟨b0, ob, none⟩) 0 0))
                have hk7 := (hk6.out.set_ (g := g) (fun _ => rfl) 5 (.slice (some ⟨b0, ob, none⟩) 0 0))
                have hl7 := (hl6.out.set_ (g := g) (fun _ => hbl1) 5 (.slice (some ⟨b0, ob, none⟩) 0 0))
                generalize (w6.setCell ⟨g, 5, none⟩ (.slice (some ⟨b0, ob, none⟩) 0 0)) = w7 at *
                replace hC7 := Lib.hid hC7
                replace hO7 := Lib.hid hO7
                replace hR7 := Lib.hid hR7
                replace hk7 := Lib.hid hk7
                replace hl7 := Lib.hid hl7
                by_cases h200 : S < 200
                · have hi : Hid (Cn.inf (Cn.C.mk true closed false meth many buf kind len dec 0) = true) := Lib.hid (by rw [hinf.out]; exact decide_eq_true h200)
                  have hnd : ¬ (Cn.inf (Cn.C.mk true closed false meth many buf kind len dec 0) = false ∧ (Cn.hFr (Cn.C.mk true closed false meth many buf kind len dec 0)).1.1 = 3) := fun h => by have := h.1; rw [hi.out] at this; cases this
                  replace hnd := Lib.hid hnd
                  have c0 := hC7.out.cell 0
                  have o4 := hO7.out.cell 4
                  have o0 := hO7.out.cell 0
                  have o1 := hO7.out.cell 1
                  have o2 := hO7.out.cell 2
                  have o3 := hO7.out.cell 3
                  have o4 := hO7.out.cell 4
                  have o5 := hO7.out.cell 5
                  have o6 := hO7.out.cell 6
                  have o7 := hO7.out.cell 7
                  have r0 := hR7.out.cell 0
                  have r1 := hR7.out.cell 1
                  have r2 := hR7.out.cell 2
                  have r3 := hR7.out.cell 3
                  have r4 := hR7.out.cell 4
                  have r5 := hR7.out.cell 5
                  have r6 := hR7.out.cell 6
                  have r7 := hR7.out.cell 7
                  have rf0 := hR7.out.frozen 0
                  have rf1 := hR7.out.frozen 1
                  have rf2 := hR7.out.frozen 2
                  have rf3 := hR7.out.frozen 3
                  have rf4 := hR7.out.frozen 4
                  have rf5 := hR7.out.frozen 5
                  have rf6 := hR7.out.frozen 6
                  have rf7 := hR7.out.frozen 7
                  go_wp2
                  exact ret_blk rfl rfl rfl (hR7.out.eight (.int .i64 1) (.string ⟨#[]⟩) (.string ⟨#[]⟩) (.slice none 0 0) (.int .i64 S) (.slice A3 Lx.length c3) (.slice none 0 0) (.slice none 0 0)) Tryz.underlying77 rfl (by kernel_rfl) (Cn.StartR.fin hL.out rfl hse.out hF.out hlt.out (hk7.out.eight (Nat.le_refl _) (.int .i64 1) (.string ⟨#[]⟩) (.string ⟨#[]⟩) (.slice none 0 0) (.int .i64 S) (.slice A3 Lx.length c3) (.slice none 0 0) (.slice none 0 0)) hN.out hcut.out (by rw [hFr.out, Cn.cells_sC, hi.out]; exact hC7.out.far8 hg1 (.int .i64 1) (.string ⟨#[]⟩) (.string ⟨#[]⟩) (.slice none 0 0) (.int .i64 S) (.slice A3 Lx.length c3) (.slice none 0 0) (.slice none 0 0)) hnd.out (hev.out _ _ (hr3.out.kp hoff.out (hl7.out.eightF hbl3 (.int .i64 1) (.string ⟨#[]⟩) (.string ⟨#[]⟩) (.slice none 0 0) (.int .i64 S) (.slice A3 Lx.length c3) (.slice none 0 0) (.slice none 0 0))) (fun k h => ⟨Nat.le_trans hW2 (hoR.out k h).1, Nat.lt_of_lt_of_le (hoR.out k h).2 (Kp.size (hl7.out.eightF hbl3 (.int .i64 1) (.string ⟨#[]⟩) (.string ⟨#[]⟩) (.slice none 0 0) (.int .i64 S) (.slice A3 Lx.length c3) (.slice none 0 0) (.slice none 0 0)))⟩)))
                · have hi : Hid (Cn.inf (Cn.C.mk true closed false meth many buf kind len dec 0) = false) := Lib.hid (by rw [hinf.out]; exact decide_eq_false h200)
                  have c0 := hC7.out.cell 0
                  have c2 := hC7.out.cell 2
                  have c8 := hC7.out.cell 8
                  have cf2 := hC7.out.frozen 2
                  have cf8 := hC7.out.frozen 8
                  have o4 := hO7.out.cell 4
                  go_upto_region 27 with (fail)
                  clear c0 c2 c8 cf2 cf8 o4
                  have hC8 : Blk ((w7.setCell ⟨g, 2, none⟩ (.bool true)).setCell ⟨g, 8, none⟩ (.pointer none)) g 73 #[.bool true, .bool closed, .bool true, .slice (some ⟨bm, om, none⟩) meth.length cm, .int .i64 ((many : Int) + 1), .slice (some ⟨b0, ob, none⟩) 0 0, .int .i64 (fk : Int), .int .i64 (fl : Int), .pointer none, .nilIface] := ((hC7.out.set_ 2 (.bool true)).set_ 8 (.pointer none))
                  have hO8 : Blk ((w7.setCell ⟨g, 2, none⟩ (.bool true)).setCell ⟨g, 8, none⟩ (.pointer none)) (w.heap.size + 1) 77 #[.int .i64 1, .string ⟨#[]⟩, .string ⟨#[]⟩, .slice none 0 0, .int .i64 S, .slice A3 Lx.length c3, .slice none 0 0, .slice none 0 0] := ((hO7.out.far (p := ⟨g, 2, none⟩) hg2.symm (.bool true)).far (p := ⟨g, 8, none⟩) hg2.symm (.pointer none))
                  have hR8 : Blk ((w7.setCell ⟨g, 2, none⟩ (.bool true)).setCell ⟨g, 8, none⟩ (.pointer none)) w.heap.size 77 #[.int .i64 0, .string ⟨#[]⟩, .string ⟨#[]⟩, .slice none 0 0, .int .i64 0, .slice none 0 0, .slice none 0 0, .slice none 0 0] := ((hR7.out.far (p := ⟨g, 2, none⟩) hg1.symm (.bool true)).far (p := ⟨g, 8, none⟩) hg1.symm (.pointer none))
                  have hk8 := ((hk7.out.set_ (g := g) (fun _ => rfl) 2 (.bool true)).set_ (g := g) (fun _ => rfl) 8 (.pointer none))
                  have hl8 := ((hl7.out.set_ (g := g) (fun _ => hbl1) 2 (.bool true)).set_ (g := g) (fun _ => hbl1) 8 (.pointer none))
                  generalize ((w7.setCell ⟨g, 2, none⟩ (.bool true)).setCell ⟨g, 8, none⟩ (.pointer none)) = w8 at *
                  replace hC8 := Lib.hid hC8
                  replace hO8 := Lib.hid hO8
                  replace hR8 := Lib.hid hR8
                  replace hk8 := Lib.hid hk8
                  replace hl8 := Lib.hid hl8
                  by_cases hk3 : fk = 3
                  · have q3 : ((fk : Int) == 3) = true := by rw [hk3]; rfl
                    replace hk3 := Lib.hid hk3
                    have c6 := hC8.out.cell 6
                    go_wp2_with fail
                    clear c6
                    refine (cnew_any _).mono ?_
                    rintro e w9 ⟨rfl, hw⟩
                    have hC9 : Blk w9 g 73 #[.bool true, .bool closed, .bool true, .slice (some ⟨bm, om, none⟩) meth.length cm, .int .i64 ((many : Int) + 1), .slice (some ⟨b0, ob, none⟩) 0 0, .int .i64 (fk : Int), .int .i64 (fl : Int), .pointer none, .nilIface] := by rw [hw]; exact hC8.out.alloc _
                    have hO9 : Blk w9 (w.heap.size + 1) 77 #[.int .i64 1, .string ⟨#[]⟩, .string ⟨#[]⟩, .slice none 0 0, .int .i64 S, .slice A3 Lx.length c3, .slice none 0 0, .slice none 0 0] := by rw [hw]; exact hO8.out.alloc _
                    have hR9 : Blk w9 w.heap.size 77 #[.int .i64 0, .string ⟨#[]⟩, .string ⟨#[]⟩, .slice none 0 0, .int .i64 0, .slice none 0 0, .slice none 0 0, .slice none 0 0] := by rw [hw]; exact hR8.out.alloc _
                    have hk9 : Kp (· = g) w w9 := by rw [hw]; exact hk8.out.alloc _
                    have hl9 : Kp (fun k => k < w2.heap.size) w3 w9 := by rw [hw]; exact hl8.out.alloc _
                    have hD9 : Blk w9 w8.heap.size 137 (Ck.cells 0 0 0 0 0 (.slice none 0 0) false 0 (.slice none 0 0) .nilIface) := by rw [hw]; exact Blk.new _ _ _
                    have hgd : w.heap.size ≤ w8.heap.size := hk8.out.size
                    have hgR : w8.heap.size ≠ w.heap.size := Nat.ne_of_gt hR8.out.lt
                    have hgC : w8.heap.size ≠ g := Nat.ne_of_gt hC8.out.lt
                    have hgd2 : On (fun k => w.heap.size ≤ k ∧ k < w8.heap.size) (.slice A3 Lx.length c3) := fun k h => by have h1 := hoR.out k h; have h2 := hl8.out.size; omega
                    clear hw
                    replace hC9 := Lib.hid hC9
                    replace hO9 := Lib.hid hO9
                    replace hR9 := Lib.hid hR9
                    replace hk9 := Lib.hid hk9
                    replace hl9 := Lib.hid hl9
                    replace hD9 := Lib.hid hD9
                    replace hgd := Lib.hid hgd
                    replace hgd2 := Lib.hid hgd2
                    have c8 := hC9.out.cell 8
                    have cf8 := hC9.out.frozen 8
                    go_upto_region 29 with (fail)
                    clear c8 cf8
                    have hC10 : Blk (w9.setCell ⟨g, 8, none⟩ (.pointer (some ⟨w8.heap.size, 0, none⟩))) g 73 #[.bool true, .bool closed, .bool true, .slice (some ⟨bm, om, none⟩) meth.length cm, .int .i64 ((many : Int) + 1), .slice (some ⟨b0, ob, none⟩) 0 0, .int .i64 (fk : Int), .int .i64 (fl : Int), .pointer (some ⟨w8.heap.size, 0, none⟩), .nilIface] := (hC9.out.set_ 8 (.pointer (some ⟨w8.heap.size, 0, none⟩)))
                    have hO10 : Blk (w9.setCell ⟨g, 8, none⟩ (.pointer (some ⟨w8.heap.size, 0, none⟩))) (w.heap.size + 1) 77 #[.int .i64 1, .string ⟨#[]⟩, .string ⟨#[]⟩, .slice none 0 0, .int .i64 S, .slice A3 Lx.length c3, .slice none 0 0, .slice none 0 0] := (hO9.out.far (p := ⟨g, 8, none⟩) hg2.symm (.pointer (some ⟨w8.heap.size, 0, none⟩)))
                    have hR10 : Blk (w9.setCell ⟨g, 8, none⟩ (.pointer (some ⟨w8.heap.size, 0, none⟩))) w.heap.size 77 #[.int .i64 0, .string ⟨#[]⟩, .string ⟨#[]⟩, .slice none 0 0, .int .i64 0, .slice none 0 0, .slice none 0 0, .slice none 0 0] := (hR9.out.far (p := ⟨g, 8, none⟩) hg1.symm (.pointer (some ⟨w8.heap.size, 0, none⟩)))
                    have hk10 := (hk9.out.set_ (g := g) (fun _ => rfl) 8 (.pointer (some ⟨w8.heap.size, 0, none⟩)))
                    have hl10 := (hl9.out.set_ (g := g) (fun _ => hbl1) 8 (.pointer (some ⟨w8.heap.size, 0, none⟩)))
                    have hD10 := hD9.out.far (p := ⟨g, 8, none⟩) hgC (.pointer (some ⟨w8.heap.size, 0, none⟩))
                    generalize (w9.setCell ⟨g, 8, none⟩ (.pointer (some ⟨w8.heap.size, 0, none⟩))) = w10 at *
                    replace hC10 := Lib.hid hC10
                    replace hO10 := Lib.hid hO10
                    replace hR10 := Lib.hid hR10
                    replace hk10 := Lib.hid hk10
                    replace hl10 := Lib.hid hl10
                    replace hD10 := Lib.hid hD10
                    have o0 := hO10.out.cell 0
                    have o1 := hO10.out.cell 1
                    have o2 := hO10.out.cell 2
                    have o3 := hO10.out.cell 3
                    have o4 := hO10.out.cell 4
                    have o5 := hO10.out.cell 5
                    have o6 := hO10.out.cell 6
                    have o7 := hO10.out.cell 7
                    have r0 := hR10.out.cell 0
                    have r1 := hR10.out.cell 1
                    have r2 := hR10.out.cell 2
                    have r3 := hR10.out.cell 3
                    have r4 := hR10.out.cell 4
                    have r5 := hR10.out.cell 5
                    have r6 := hR10.out.cell 6
                    have r7 := hR10.out.cell 7
                    have rf0 := hR10.out.frozen 0
                    have rf1 := hR10.out.frozen 1
                    have rf2 := hR10.out.frozen 2
                    have rf3 := hR10.out.frozen 3
                    have rf4 := hR10.out.frozen 4
                    have rf5 := hR10.out.frozen 5
                    have rf6 := hR10.out.frozen 6
                    have rf7 := hR10.out.frozen 7
                    go_wp2
                    exact ret_blk rfl rfl rfl (hR10.out.eight (.int .i64 1) (.string ⟨#[]⟩) (.string ⟨#[]⟩) (.slice none 0 0) (.int .i64 S) (.slice A3 Lx.length c3) (.slice none 0 0) (.slice none 0 0)) Tryz.underlying77 rfl (by kernel_rfl) (Cn.StartR.finD hL.out rfl hse.out hF.out hlt.out (hk10.out.eight (Nat.le_refl _) (.int .i64 1) (.string ⟨#[]⟩) (.string ⟨#[]⟩) (.slice none 0 0) (.int .i64 S) (.slice A3 Lx.length c3) (.slice none 0 0) (.slice none 0 0)) hN.out hcut.out (by rw [hFr.out, Cn.cells_sC, hi.out]; exact hC10.out.far8 hg1 (.int .i64 1) (.string ⟨#[]⟩) (.string ⟨#[]⟩) (.slice none 0 0) (.int .i64 S) (.slice A3 Lx.length c3) (.slice none 0 0) (.slice none 0 0)) hgd.out (hD10.out.far8 hgR (.int .i64 1) (.string ⟨#[]⟩) (.string ⟨#[]⟩) (.slice none 0 0) (.int .i64 S) (.slice A3 Lx.length c3) (.slice none 0 0) (.slice none 0 0)) (hev.out _ _ (hr3.out.kp hoff.out (hl10.out.eightF hbl3 (.int .i64 1) (.string ⟨#[]⟩) (.string ⟨#[]⟩) (.slice none 0 0) (.int .i64 S) (.slice A3 Lx.length c3) (.slice none 0 0) (.slice none 0 0))) hgd2.out))
                  · have q3 : ((fk : Int) == 3) = false := beq_false_of_ne (by omega)
                    have hnd : ¬ (Cn.inf (Cn.C.mk true closed false meth many buf kind len dec 0) = false ∧ (Cn.hFr (Cn.C.mk true closed false meth many buf kind len dec 0)).1.1 = 3) := fun h => hk3 (by have := h.2; rw [hFr.out] at this; exact this)
                    replace hnd := Lib.hid hnd
                    replace hk3 := Lib.hid hk3
                    have c6 := hC8.out.cell 6
                    have o0 := hO8.out.cell 0
                    have o1 := hO8.out.cell 1
                    have o2 := hO8.out.cell 2
                    have o3 := hO8.out.cell 3
                    have o4 := hO8.out.cell 4
                    have o5 := hO8.out.cell 5
                    have o6 := hO8.out.cell 6
                    have o7 := hO8.out.cell 7
                    have r0 := hR8.out.cell 0
                    have r1 := hR8.out.cell 1
                    have r2 := hR8.out.cell 2
                    have r3 := hR8.out.cell 3
                    have r4 := hR8.out.cell 4
                    have r5 := hR8.out.cell 5
                    have r6 := hR8.out.cell 6
                    have r7 := hR8.out.cell 7
                    have rf0 := hR8.out.frozen 0
                    have rf1 := hR8.out.frozen 1
                    have rf2 := hR8.out.frozen 2
                    have rf3 := hR8.out.frozen 3
                    have rf4 := hR8.out.frozen 4
                    have rf5 := hR8.out.frozen 5
                    have rf6 := hR8.out.frozen 6
                    have rf7 := hR8.out.frozen 7
                    go_wp2
                    exact ret_blk rfl rfl rfl (hR8.out.eight (.int .i64 1) (.string ⟨#[]⟩) (.string ⟨#[]⟩) (.slice none 0 0) (.int .i64 S) (.slice A3 Lx.length c3) (.slice none 0 0) (.slice none 0 0)) Tryz.underlying77 rfl (by kernel_rfl) (Cn.StartR.fin hL.out rfl hse.out hF.out hlt.out (hk8.out.eight (Nat.le_refl _) (.int .i64 1) (.string ⟨#[]⟩) (.string ⟨#[]⟩) (.slice none 0 0) (.int .i64 S) (.slice A3 Lx.length c3) (.slice none 0 0) (.slice none 0 0)) hN.out hcut.out (by rw [hFr.out, Cn.cells_sC, hi.out]; exact hC8.out.far8 hg1 (.int .i64 1) (.string ⟨#[]⟩) (.string ⟨#[]⟩) (.slice none 0 0) (.int .i64 S) (.slice A3 Lx.length c3) (.slice none 0 0) (.slice none 0 0)) hnd.out (hev.out _ _ (hr3.out.kp hoff.out (hl8.out.eightF hbl3 (.int .i64 1) (.string ⟨#[]⟩) (.string ⟨#[]⟩) (.slice none 0 0) (.int .i64 S) (.slice A3 Lx.length c3) (.slice none 0 0) (.slice none 0 0))) (fun k h => ⟨Nat.le_trans hW2 (hoR.out k h).1, Nat.lt_of_lt_of_le (hoR.out k h).2 (Kp.size (hl8.out.eightF hbl3 (.int .i64 1) (.string ⟨#[]⟩) (.string ⟨#[]⟩) (.slice none 0 0) (.int .i64 S) (.slice A3 Lx.length c3) (.slice none 0 0) (.slice none 0 0)))⟩)))
              · have hlt2 : N < cap := by omega
                have hcut : Hid (Cn.CutB (some ⟨b0, ob, none⟩) buf.length cap N (.slice (some ⟨b0, ob + N, none⟩) (buf.length - N) (cap - N))) := ⟨b0, ob, rfl, hNl, hcap, .inl ⟨hlt2, rfl⟩⟩
                have c5 := hC6.out.cell 5
                have cf5 := hC6.out.frozen 5
                go_upto_region 23 with (fail)
                clear c5 cf5
                have hC7 : Blk (w6.setCell ⟨g, 5, none⟩ (.slice (some ⟨b0, ob + N, none⟩) (buf.length - N) (cap - N))) g 73 #[.bool true, .bool closed, .bool false, .slice (some ⟨bm, om, none⟩) meth.length cm, .int .i64 ((many : Int) + 1), .slice (some ⟨b0, ob + N, none⟩) (buf.length - N) (cap - N), .int .i64 (fk : Int), .int .i64 (fl : Int), vd, .nilIface] := (hC6.out.set_ 5 (.slice (some ⟨b0, ob + N, none⟩) (buf.length - N) (cap - N)))
                have hO7 : Blk (w6.setCell ⟨g, 5, none⟩ (.slice (some ⟨b0, ob + N, none⟩) (buf.length - N) (cap - N))) (w.heap.size + 1) 77 #[.int .i64 1, .string ⟨#[]⟩, .string ⟨#[]⟩, .slice none 0 0, .int .i64 S, .slice A3 Lx.length c3, .slice none 0 0, .slice none 0 0] := (hO6.out.far (p := ⟨g, 5, none⟩) hg2.symm (.slice (some ⟨b0, ob + N, none⟩) (buf.length - N) (cap - N)))
                have hR7 : Blk (w6.setCell ⟨g, 5, none⟩ (.slice (some ⟨b0, ob + N, none⟩) (buf.length - N) (cap - N))) w.heap.size 77 #[.int .i64 0, .string ⟨#[]⟩, .string ⟨#[]⟩, .slice none 0 0, .int .i64 0, .slice none 0 0, .slice none 0 0, .slice none 0 0] := (hR6.out.far (p := ⟨g, 5, none⟩) hg1.symm (.slice (some ⟨b0, ob + N, none⟩) (buf.length - N) (cap - N)))
                have hk7 := (hk6.out.set_ (g := g) (fun _ => rfl) 5 (.slice (some ⟨b0, ob + N, none⟩) (buf.length - N) (cap - N)))
                have hl7 := (hl6.out.set_ (g := g) (fun _ => hbl1) 5 (.slice (some ⟨b0, ob + N, none⟩) (buf.length - N) (cap - N)))
                generalize (w6.setCell ⟨g, 5, none⟩ (.slice (some ⟨b0, ob + N, none⟩) (buf.length - N) (cap - N))) = w7 at *
                replace hC7 := Lib.hid hC7
                replace hO7 := Lib.hid hO7
                replace hR7 := Lib.hid hR7
                replace hk7 := Lib.hid hk7
                replace hl7 := Lib.hid hl7
                by_cases h200 : S < 200
                · have hi : Hid (Cn.inf (Cn.C.mk true closed false meth many buf kind len dec 0) = true) := Lib.hid (by rw [hinf.out]; exact decide_eq_true h200)
                  have hnd : ¬ (Cn.inf (Cn.C.mk true closed false meth many buf kind len dec 0) = false ∧ (Cn.hFr (Cn.C.mk true closed false meth many buf kind len dec 0)).1.1 = 3) := fun h => by have := h.1; rw [hi.out] at this; cases this
                  replace hnd := Lib.hid hnd
                  have c0 := hC7.out.cell 0
                  have o4 := hO7.out.cell 4
                  have o0 := hO7.out.cell 0
                  have o1 := hO7.out.cell 1
                  have o2 := hO7.out.cell 2
                  have o3 := hO7.out.cell 3
                  have o4 := hO7.out.cell 4
                  have o5 := hO7.out.cell 5
                  have o6 := hO7.out.cell 6
                  have o7 := hO7.out.cell 7
                  have r0 := hR7.out.cell 0
                  have r1 := hR7.out.cell 1
                  have r2 := hR7.out.cell 2
                  have r3 := hR7.out.cell 3
                  have r4 := hR7.out.cell 4
                  have r5 := hR7.out.cell 5
                  have r6 := hR7.out.cell 6
                  have r7 := hR7.out.cell 7
                  have rf0 := hR7.out.frozen 0
                  have rf1 := hR7.out.frozen 1
                  have rf2 := hR7.out.frozen 2
                  have rf3 := hR7.out.frozen 3
                  have rf4 := hR7.out.frozen 4
                  have rf5 := hR7.out.frozen 5
                  have rf6 := hR7.out.frozen 6
                  have rf7 := hR7.out.frozen 7
                  go_wp2
                  exact ret_blk rfl rfl rfl (hR7.out.eight (.int .i64 1) (.string ⟨#[]⟩) (.string ⟨#[]⟩) (.slice none 0 0) (.int .i64 S) (.slice A3 Lx.length c3) (.slice none 0 0) (.slice none 0 0)) Tryz.underlying77 rfl (by kernel_rfl) (Cn.StartR.fin hL.out rfl hse.out hF.out hlt.out (hk7.out.eight (Nat.le_refl _) (.int .i64 1) (.string ⟨#[]⟩) (.string ⟨#[]⟩) (.slice none 0 0) (.int .i64 S) (.slice A3 Lx.length c3) (.slice none 0 0) (.slice none 0 0)) hN.out hcut.out (by rw [hFr.out, Cn.cells_sC, hi.out]; exact hC7.out.far8 hg1 (.int .i64 1) (.string ⟨#[]⟩) (.string ⟨#[]⟩) (.slice none 0 0) (.int .i64 S) (.slice A3 Lx.length c3) (.slice none 0 0) (.slice none 0 0)) hnd.out (hev.out _ _ (hr3.out.kp hoff.out (hl7.out.eightF hbl3 (.int .i64 1) (.string ⟨#[]⟩) (.string ⟨#[]⟩) (.slice none 0 0) (.int .i64 S) (.slice A3 Lx.length c3) (.slice none 0 0) (.slice none 0 0))) (fun k h => ⟨Nat.le_trans hW2 (hoR.out k h).1, Nat.lt_of_lt_of_le (hoR.out k h).2 (Kp.size (hl7.out.eightF hbl3 (.int .i64 1) (.string ⟨#[]⟩) (.string ⟨#[]⟩) (.slice none 0 0) (.int .i64 S) (.slice A3 Lx.length c3) (.slice none 0 0) (.slice none 0 0)))⟩)))
                · have hi : Hid (Cn.inf (Cn.C.mk true closed false meth many buf kind len dec 0) = false) := Lib.hid (by rw [hinf.out]; exact decide_eq_false h200)
                  have c0 := hC7.out.cell 0
                  have c2 := hC7.out.cell 2
                  have c8 := hC7.out.cell 8
                  have cf2 := hC7.out.frozen 2
                  have cf8 := hC7.out.frozen 8
                  have o4 := hO7.out.cell 4
                  go_upto_region 27 with (fail)
                  clear c0 c2 c8 cf2 cf8 o4
                  have hC8 : Blk ((w7.setCell ⟨g, 2, none⟩ (.bool true)).setCell ⟨g, 8, none⟩ (.pointer none)) g 73 #[.bool true, .bool closed, .bool true, .slice (some ⟨bm, om, none⟩) meth.length cm, .int .i64 ((many : Int) + 1), .slice (some ⟨b0, ob + N, none⟩) (buf.length - N) (cap - N), .int .i64 (fk : Int), .int .i64 (fl : Int), .pointer none, .nilIface] := ((hC7.out.set_ 2 (.bool true)).set_ 8 (.pointer none))
                  have hO8 : Blk ((w7.setCell ⟨g, 2, none⟩ (.bool true)).setCell ⟨g, 8, none⟩ (.pointer none)) (w.heap.size + 1) 77 #[.int .i64 1, .string ⟨#[]⟩, .string ⟨#[]⟩, .slice none 0 0, .int .i64 S, .slice A3 Lx.length c3, .slice none 0 0, .slice none 0 0] := ((hO7.out.far (p := ⟨g, 2, none⟩) hg2.symm (.bool true)).far (p := ⟨g, 8, none⟩) hg2.symm (.pointer none))
                  have hR8 : Blk ((w7.setCell ⟨g, 2, none⟩ (.bool true)).setCell ⟨g, 8, none⟩ (.pointer none)) w.heap.size 77 #[.int .i64 0, .string ⟨#[]⟩, .string ⟨#[]⟩, .slice none 0 0, .int .i64 0, .slice none 0 0, .slice none 0 0, .slice none 0 0] := ((hR7.out.far (p := ⟨g, 2, none⟩) hg1.symm (.bool true)).far (p := ⟨g, 8, none⟩) hg1.symm (.pointer none))
                  have hk8 := ((hk7.out.set_ (g := g) (fun _ => rfl) 2 (.bool true)).set_ (g := g) (fun _ => rfl) 8 (.pointer none))
                  have hl8 := ((hl7.out.set_ (g := g) (fun _ => hbl1) 2 (.bool true)).set_ (g := g) (fun _ => hbl1) 8 (.pointer none))
                  generalize ((w7.setCell ⟨g, 2, none⟩ (.bool true)).setCell ⟨g, 8, none⟩ (.pointer none)) = w8 at *
                  replace hC8 := Lib.hid hC8
                  replace hO8 := Lib.hid hO8
                  replace hR8 := Lib.hid hR8
                  replace hk8 := Lib.hid hk8
                  replace hl8 := Lib.hid hl8
                  by_cases hk3 : fk = 3
                  · have q3 : ((fk : Int) == 3) = true := by rw [hk3]; rfl
                    replace hk3 := Lib.hid hk3
                    have c6 := hC8.out.cell 6
                    go_wp2_with fail
                    clear c6
                    refine (cnew_any _).mono ?_
                    rintro e w9 ⟨rfl, hw⟩
                    have hC9 : Blk w9 g 73 #[.bool true, .bool closed, .bool true, .slice (some ⟨bm, om, none⟩) meth.length cm, .int .i64 ((many : Int) + 1), .slice (some ⟨b0, ob + N, none⟩) (buf.length - N) (cap - N), .int .i64 (fk : Int), .int .i64 (fl : Int), .pointer none, .nilIface] := by rw [hw]; exact hC8.out.alloc _
                    have hO9 : Blk w9 (w.heap.size + 1) 77 #[.int .i64 1, .string ⟨#[]⟩, .string ⟨#[]⟩, .slice none 0 0, .int .i64 S, .slice A3 Lx.length c3, .slice none 0 0, .slice none 0 0] := by rw [hw]; exact hO8.out.alloc _
                    have hR9 : Blk w9 w.heap.size 77 #[.int .i64 0, .string ⟨#[]⟩, .string ⟨#[]⟩, .slice none 0 0, .int .i64 0, .slice none 0 0, .slice none 0 0, .slice none 0 0] := by rw [hw]; exact hR8.out.alloc _
                    have hk9 : Kp (· = g) w w9 := by rw [hw]; exact hk8.out.alloc _
                    have hl9 : Kp (fun k => k < w2.heap.size) w3 w9 := by rw [hw]; exact hl8.out.alloc _
                    have hD9 : Blk w9 w8.heap.size 137 (Ck.cells 0 0 0 0 0 (.slice none 0 0) false 0 (.slice none 0 0) .nilIface) := by rw [hw]; exact Blk.new _ _ _
                    have hgd : w.heap.size ≤ w8.heap.size := hk8.out.size
                    have hgR : w8.heap.size ≠ w.heap.size := Nat.ne_of_gt hR8.out.lt
                    have hgC : w8.heap.size ≠ g := Nat.ne_of_gt hC8.out.lt
                    have hgd2 : On (fun k => w.heap.size ≤ k ∧ k < w8.heap.size) (.slice A3 Lx.length c3) := fun k h => by have h1 := hoR.out k h; have h2 := hl8.out.size; omega
                    clear hw
                    replace hC9 := Lib.hid hC9
                    replace hO9 := Lib.hid hO9
                    replace hR9 := Lib.hid hR9
                    replace hk9 := Lib.hid hk9
                    replace hl9 := Lib.hid hl9
                    replace hD9 := Lib.hid hD9
                    replace hgd := Lib.hid hgd
                    replace hgd2 := Lib.hid hgd2
                    have c8 := hC9.out.cell 8
                    have cf8 := hC9.out.frozen 8
                    go_upto_region 29 with (fail)
                    clear c8 cf8
                    have hC10 : Blk (w9.setCell ⟨g, 8, none⟩ (.pointer (some ⟨w8.heap.size, 0, none⟩))) g 73 #[.bool true, .bool closed, .bool true, .slice (some ⟨bm, om, none⟩) meth.length cm, .int .i64 ((many : Int) + 1), .slice (some ⟨b0, ob + N, none⟩) (buf.length - N) (cap - N), .int .i64 (fk : Int), .int .i64 (fl : Int), .pointer (some ⟨w8.heap.size, 0, none⟩), .nilIface] := (hC9.out.set_ 8 (.pointer (some ⟨w8.heap.size, 0, none⟩)))
                    have hO10 : Blk (w9.setCell ⟨g, 8, none⟩ (.pointer (some ⟨w8.heap.size, 0, none⟩))) (w.heap.size + 1) 77 #[.int .i64 1, .string ⟨#[]⟩, .string ⟨#[]⟩, .slice none 0 0, .int .i64 S, .slice A3 Lx.length c3, .slice none 0 0, .slice none 0 0] := (hO9.out.far (p := ⟨g, 8, none⟩) hg2.symm (.pointer (some ⟨w8.heap.size, 0, none⟩)))
                    have hR10 : Blk (w9.setCell ⟨g, 8, none⟩ (.pointer (some ⟨w8.heap.size, 0, none⟩))) w.heap.size 77 #[.int .i64 0, .string ⟨#[]⟩, .string ⟨#[]⟩, .slice none 0 0, .int .i64 0, .slice none 0 0, .slice none 0 0, .slice none 0 0] := (hR9.out.far (p := ⟨g, 8, none⟩) hg1.symm (.pointer (some ⟨w8.heap.size, 0, none⟩)))
                    have hk10 := (hk9.out.set_ (g := g) (fun _ => rfl) 8 (.pointer (some ⟨w8.heap.size, 0, none⟩)))
                    have hl10 := (hl9.out.set_ (g := g) (fun _ => hbl1) 8 (.pointer (some ⟨w8.heap.size, 0, none⟩)))
                    have hD10 := hD9.out.far (p := ⟨g, 8, none⟩) hgC (.pointer (some ⟨w8.heap.size, 0, none⟩))
                    generalize (w9.setCell ⟨g, 8, none⟩ (.pointer (some ⟨w8.heap.size, 0, none⟩))) = w10 at *
                    replace hC10 := Lib.hid hC10
                    replace hO10 := Lib.hid hO10
                    replace hR10 := Lib.hid hR10
                    replace hk10 := Lib.hid hk10
                    replace hl10 := Lib.hid hl10
                    replace hD10 := Lib.hid hD10
                    have o0 := hO10.out.cell 0
                    have o1 := hO10.out.cell 1
                    have o2 := hO10.out.cell 2
                    have o3 := hO10.out.cell 3
                    have o4 := hO10.out.cell 4
                    have o5 := hO10.out.cell 5
                    have o6 := hO10.out.cell 6
                    have o7 := hO10.out.cell 7
                    have r0 := hR10.out.cell 0
                    have r1 := hR10.out.cell 1
                    have r2 := hR10.out.cell 2
                    have r3 := hR10.out.cell 3
                    have r4 := hR10.out.cell 4
                    have r5 := hR10.out.cell 5
                    have r6 := hR10.out.cell 6
                    have r7 := hR10.out.cell 7
                    have rf0 := hR10.out.frozen 0
                    have rf1 := hR10.out.frozen 1
                    have rf2 := hR10.out.frozen 2
                    have rf3 := hR10.out.frozen 3
                    have rf4 := hR10.out.frozen 4
                    have rf5 := hR10.out.frozen 5
                    have rf6 := hR10.out.frozen 6
                    have rf7 := hR10.out.frozen 7
                    go_wp2
                    exact ret_blk rfl rfl rfl (hR10.out.eight (.int .i64 1) (.string ⟨#[]⟩) (.string ⟨#[]⟩) (.slice none 0 0) (.int .i64 S) (.slice A3 Lx.length c3) (.slice none 0 0) (.slice none 0 0)) Tryz.underlying77 rfl (by kernel_rfl) (Cn.StartR.finD hL.out rfl hse.out hF.out hlt.out (hk10.out.eight (Nat.le_refl _) (.int .i64 1) (.string ⟨#[]⟩) (.string ⟨#[]⟩) (.slice none 0 0) (.int .i64 S) (.slice A3 Lx.length c3) (.slice none 0 0) (.slice none 0 0)) hN.out hcut.out (by rw [hFr.out, Cn.cells_sC, hi.out]; exact hC10.out.far8 hg1 (.int .i64 1) (.string ⟨#[]⟩) (.string ⟨#[]⟩) (.slice none 0 0) (.int .i64 S) (.slice A3 Lx.length c3) (.slice none 0 0) (.slice none 0 0)) hgd.out (hD10.out.far8 hgR (.int .i64 1) (.string ⟨#[]⟩) (.string ⟨#[]⟩) (.slice none 0 0) (.int .i64 S) (.slice A3 Lx.length c3) (.slice none 0 0) (.slice none 0 0)) (hev.out _ _ (hr3.out.kp hoff.out (hl10.out.eightF hbl3 (.int .i64 1) (.string ⟨#[]⟩) (.string ⟨#[]⟩) (.slice none 0 0) (.int .i64 S) (.slice A3 Lx.length c3) (.slice none 0 0) (.slice none 0 0))) hgd2.out))
                  · have q3 : ((fk : Int) == 3) = false := beq_false_of_ne (by omega)
                    have hnd : ¬ (Cn.inf (Cn.C.mk true closed false meth many buf kind len dec 0) = false ∧ (Cn.hFr (Cn.C.mk true closed false meth many buf kind len dec 0)).1.1 = 3) := fun h => hk3 (by have := h.2; rw [hFr.out] at this; exact this)
                    replace hnd := Lib.hid hnd
                    replace hk3 := Lib.hid hk3
                    have c6 := hC8.out.cell 6
                    have o0 := hO8.out.cell 0
                    have o1 := hO8.out.cell 1
                    have o2 := hO8.out.cell 2
                    have o3 := hO8.out.cell 3
                    have o4 := hO8.out.cell 4
                    have o5 := hO8.out.cell 5
                    have o6 := hO8.out.cell 6
                    have o7 := hO8.out.cell 7
                    have r0 := hR8.out.cell 0
                    have r1 := hR8.out.cell 1
                    have r2 := hR8.out.cell 2
                    have r3 := hR8.out.cell 3
                    have r4 := hR8.out.cell 4
                    have r5 := hR8.out.cell 5
                    have r6 := hR8.out.cell 6
                    have r7 := hR8.out.cell 7
                    have rf0 := hR8.out.frozen 0
                    have rf1 := hR8.out.frozen 1
                    have rf2 := hR8.out.frozen 2
                    have rf3 := hR8.out.frozen 3
                    have rf4 := hR8.out.frozen 4
                    have rf5 := hR8.out.frozen 5
                    have rf6 := hR8.out.frozen 6
                    have rf7 := hR8.out.frozen 7
                    go_wp2
                    exact ret_blk rfl rfl rfl (hR8.out.eight (.int .i64 1) (.string ⟨#[]⟩) (.string ⟨#[]⟩) (.slice none 0 0) (.int .i64 S) (.slice A3 Lx.length c3) (.slice none 0 0) (.slice none 0 0)) Tryz.underlying77 rfl (by kernel_rfl) (Cn.StartR.fin hL.out rfl hse.out hF.out hlt.out (hk8.out.eight (Nat.le_refl _) (.int .i64 1) (.string ⟨#[]⟩) (.string ⟨#[]⟩) (.slice none 0 0) (.int .i64 S) (.slice A3 Lx.length c3) (.slice none 0 0) (.slice none 0 0)) hN.out hcut.out (by rw [hFr.out, Cn.cells_sC, hi.out]; exact hC8.out.far8 hg1 (.int .i64 1) (.string ⟨#[]⟩) (.string ⟨#[]⟩) (.slice none 0 0) (.int .i64 S) (.slice A3 Lx.length c3) (.slice none 0 0) (.slice none 0 0)) hnd.out (hev.out _ _ (hr3.out.kp hoff.out (hl8.out.eightF hbl3 (.int .i64 1) (.string ⟨#[]⟩) (.string ⟨#[]⟩) (.slice none 0 0) (.int .i64 S) (.slice A3 Lx.length c3) (.slice none 0 0) (.slice none 0 0))) (fun k h => ⟨Nat.le_trans hW2 (hoR.out k h).1, Nat.lt_of_lt_of_le (hoR.out k h).2 (Kp.size (hl8.out.eightF hbl3 (.int .i64 1) (.string ⟨#[]⟩) (.string ⟨#[]⟩) (.slice none 0 0) (.int .i64 S) (.slice A3 Lx.length c3) (.slice none 0 0) (.slice none 0 0)))⟩)))
          · rw [show errV fe = .iface 57 (.int .i64 fe) from if_neg hfe] at hOf
            have hse := Lib.hid (hse1.out fe (by rw [hfr]))
            replace hfr := Lib.hid hfr
            replace hfe := Lib.hid hfe
            have c0 := hC4.out.cell 0
            have c4 := hC4.out.cell 4
            have c9 := hC4.out.cell 9
            go_upto_region 17 with (fail)
            clear c0 c4 c9
            go_cut [] (fun wx => Blk wx g 73 #[.bool true, .bool closed, .bool false, .slice (some ⟨bm, om, none⟩) meth.length cm, .int .i64 (many : Int), .slice A buf.length cap, .int .i64 (fk : Int), .int .i64 (fl : Int), vd, .iface 57 (.int .i64 fe)] ∧ Blk wx (w.heap.size + 1) 77 #[.int .i64 1, .string ⟨#[]⟩, .string ⟨#[]⟩, .slice none 0 0, .int .i64 S, .slice A3 Lx.length c3, .slice none 0 0, .slice none 0 0] ∧ Blk wx w.heap.size 77 #[.int .i64 0, .string ⟨#[]⟩, .string ⟨#[]⟩, .slice none 0 0, .int .i64 0, .slice none 0 0, .slice none 0 0, .slice none 0 0] ∧ Kp (· = g) w wx ∧ Kp (fun k => k < w2.heap.size) w3 wx)
            case first =>
              have hS := Lib.hid (fun w' (hb : Below w4.heap.size w4 w') => show (w').cell? ⟨g, 3, none⟩ = some (.slice (some ⟨bm, om, none⟩) meth.length cm) ∧ (w').cell? ⟨bm, om, none⟩ = some (.string (str m0)) ∧ (w').cell? ⟨w.heap.size + 1, 4, none⟩ = some (.int .i64 S) ∧ (w').cell? ⟨w.heap.size + 1, 5, none⟩ = some (.slice A3 Lx.length c3) from ⟨(hC4.out.below hb).cell 3, dmB.out _ hb, (hO4.out.below hb).cell 4, (hO4.out.below hb).cell 5⟩)
              have hS6 := Lib.hid (fun w' (hb : Below w4.heap.size w4 w') => show (((w'.setCell ⟨g, 6, none⟩ (.int .i64 (fk : Int))).setCell ⟨g, 7, none⟩ (.int .i64 (fl : Int)))).cell? ⟨g, 3, none⟩ = some (.slice (some ⟨bm, om, none⟩) meth.length cm) ∧ (((w'.setCell ⟨g, 6, none⟩ (.int .i64 (fk : Int))).setCell ⟨g, 7, none⟩ (.int .i64 (fl : Int)))).cell? ⟨bm, om, none⟩ = some (.string (str m0)) ∧ (((w'.setCell ⟨g, 6, none⟩ (.int .i64 (fk : Int))).setCell ⟨g, 7, none⟩ (.int .i64 (fl : Int)))).cell? ⟨w.heap.size + 1, 4, none⟩ = some (.int .i64 S) ∧ (((w'.setCell ⟨g, 6, none⟩ (.int .i64 (fk : Int))).setCell ⟨g, 7, none⟩ (.int .i64 (fl : Int)))).cell? ⟨w.heap.size + 1, 5, none⟩ = some (.slice A3 Lx.length c3) from ⟨(((hC4.out.below hb).set_ 6 (.int .i64 (fk : Int))).set_ 7 (.int .i64 (fl : Int))).cell 3, ((World.cell?_setCell_far _ ⟨g, 7, none⟩ ⟨bm, om, none⟩ (.int .i64 (fl : Int)) hbg).trans (((World.cell?_setCell_far _ ⟨g, 6, none⟩ ⟨bm, om, none⟩ (.int .i64 (fk : Int)) hbg).trans (dmB.out _ hb)))), (((hO4.out.below hb).far (p := ⟨g, 6, none⟩) hg2.symm (.int .i64 (fk : Int))).far (p := ⟨g, 7, none⟩) hg2.symm (.int .i64 (fl : Int))).cell 4, (((hO4.out.below hb).far (p := ⟨g, 6, none⟩) hg2.symm (.int .i64 (fk : Int))).far (p := ⟨g, 7, none⟩) hg2.symm (.int .i64 (fl : Int))).cell 5⟩)
              have hS9 := Lib.hid (fun w' (hb : Below w4.heap.size w4 w') => show ((((w'.setCell ⟨g, 6, none⟩ (.int .i64 (fk : Int))).setCell ⟨g, 7, none⟩ (.int .i64 (fl : Int))).setCell ⟨g, 9, none⟩ (.iface 57 (.int .i64 fe)))).cell? ⟨g, 3, none⟩ = some (.slice (some ⟨bm, om, none⟩) meth.length cm) ∧ ((((w'.setCell ⟨g, 6, none⟩ (.int .i64 (fk : Int))).setCell ⟨g, 7, none⟩ (.int .i64 (fl : Int))).setCell ⟨g, 9, none⟩ (.iface 57 (.int .i64 fe)))).cell? ⟨bm, om, none⟩ = some (.string (str m0)) ∧ ((((w'.setCell ⟨g, 6, none⟩ (.int .i64 (fk : Int))).setCell ⟨g, 7, none⟩ (.int .i64 (fl : Int))).setCell ⟨g, 9, none⟩ (.iface 57 (.int .i64 fe)))).cell? ⟨w.heap.size + 1, 4, none⟩ = some (.int .i64 S) ∧ ((((w'.setCell ⟨g, 6, none⟩ (.int .i64 (fk : Int))).setCell ⟨g, 7, none⟩ (.int .i64 (fl : Int))).setCell ⟨g, 9, none⟩ (.iface 57 (.int .i64 fe)))).cell? ⟨w.heap.size + 1, 5, none⟩ = some (.slice A3 Lx.length c3) from ⟨((((hC4.out.below hb).set_ 6 (.int .i64 (fk : Int))).set_ 7 (.int .i64 (fl : Int))).set_ 9 (.iface 57 (.int .i64 fe))).cell 3, ((World.cell?_setCell_far _ ⟨g, 9, none⟩ ⟨bm, om, none⟩ (.iface 57 (.int .i64 fe)) hbg).trans (((World.cell?_setCell_far _ ⟨g, 7, none⟩ ⟨bm, om, none⟩ (.int .i64 (fl : Int)) hbg).trans (((World.cell?_setCell_far _ ⟨g, 6, none⟩ ⟨bm, om, none⟩ (.int .i64 (fk : Int)) hbg).trans (dmB.out _ hb)))))), ((((hO4.out.below hb).far (p := ⟨g, 6, none⟩) hg2.symm (.int .i64 (fk : Int))).far (p := ⟨g, 7, none⟩) hg2.symm (.int .i64 (fl : Int))).far (p := ⟨g, 9, none⟩) hg2.symm (.iface 57 (.int .i64 fe))).cell 4, ((((hO4.out.below hb).far (p := ⟨g, 6, none⟩) hg2.symm (.int .i64 (fk : Int))).far (p := ⟨g, 7, none⟩) hg2.symm (.int .i64 (fl : Int))).far (p := ⟨g, 9, none⟩) hg2.symm (.iface 57 (.int .i64 fe))).cell 5⟩)
              go_wp2_with fail
              go_region_held3 (fun w' => (w').cell? ⟨g, 3, none⟩ = some (.slice (some ⟨bm, om, none⟩) meth.length cm) ∧ (w').cell? ⟨bm, om, none⟩ = some (.string (str m0)) ∧ (w').cell? ⟨w.heap.size + 1, 4, none⟩ = some (.int .i64 S) ∧ (w').cell? ⟨w.heap.size + 1, 5, none⟩ = some (.slice A3 Lx.length c3))
                (first | exact hS.out _ (by first | with_reducible exact Below.refl _ _ | with_reducible exact (Below.refl _ _).drew | with_reducible assumption | with_reducible exact Below.drew (by with_reducible assumption)) | with_reducible exact hS6.out _ (by with_reducible assumption) | with_reducible exact hS9.out _ (by with_reducible assumption))
                (first | (go_at_call 37; refine (hOf.out _ (by first | with_reducible exact Below.refl _ _ | with_reducible exact (Below.refl _ _).drew | with_reducible assumption | with_reducible exact Below.drew (by with_reducible assumption))).mono ?_; rintro e w5 ⟨rfl, hb5⟩; (first | have hb6 : Below w4.heap.size w4 w5 := hb5 | have hb6 : Below w4.heap.size w4 w5 := below_of_drew hb5); have z6 := (hC4.out.below hb6).cell 6; have z7 := (hC4.out.below hb6).cell 7; have z9 := (hC4.out.below hb6).cell 9; have y6 := (hC4.out.below hb6).frozen 6; have y7 := (hC4.out.below hb6).frozen 7; have y9 := (hC4.out.below hb6).frozen 9))
              all_goals
                go_wp2_with fail
                go_meet
                exact ⟨((((hC4.out.below hb6).set_ 6 (.int .i64 (fk : Int))).set_ 7 (.int .i64 (fl : Int))).set_ 9 (.iface 57 (.int .i64 fe))), ((((hO4.out.below hb6).far (p := ⟨g, 6, none⟩) hg2.symm (.int .i64 (fk : Int))).far (p := ⟨g, 7, none⟩) hg2.symm (.int .i64 (fl : Int))).far (p := ⟨g, 9, none⟩) hg2.symm (.iface 57 (.int .i64 fe))), ((((hR4.out.below hb6).far (p := ⟨g, 6, none⟩) hg1.symm (.int .i64 (fk : Int))).far (p := ⟨g, 7, none⟩) hg1.symm (.int .i64 (fl : Int))).far (p := ⟨g, 9, none⟩) hg1.symm (.iface 57 (.int .i64 fe))), ((((hk4.out.below hb6).set_ (g := g) (fun _ => rfl) 6 (.int .i64 (fk : Int))).set_ (g := g) (fun _ => rfl) 7 (.int .i64 (fl : Int))).set_ (g := g) (fun _ => rfl) 9 (.iface 57 (.int .i64 fe))), ((((hl4.out.below hb6).set_ (g := g) (fun _ => hbl1) 6 (.int .i64 (fk : Int))).set_ (g := g) (fun _ => hbl1) 7 (.int .i64 (fl : Int))).set_ (g := g) (fun _ => hbl1) 9 (.iface 57 (.int .i64 fe)))⟩
            case rest =>
              obtain ⟨hC5, hO5, hR5, hk5, hl5⟩ := hcut
              rename World => w5
              replace hC5 := Lib.hid hC5
              replace hO5 := Lib.hid hO5
              replace hR5 := Lib.hid hR5
              replace hk5 := Lib.hid hk5
              replace hl5 := Lib.hid hl5
              clear hOf dmB hr4
              have c9 := hC5.out.cell 9
              have o0 := hO5.out.cell 0
              have o1 := hO5.out.cell 1
              have o2 := hO5.out.cell 2
              have o3 := hO5.out.cell 3
              have o4 := hO5.out.cell 4
              have o5 := hO5.out.cell 5
              have o6 := hO5.out.cell 6
              have o7 := hO5.out.cell 7
              have r0 := hR5.out.cell 0
              have r1 := hR5.out.cell 1
              have r2 := hR5.out.cell 2
              have r3 := hR5.out.cell 3
              have r4 := hR5.out.cell 4
              have r5 := hR5.out.cell 5
              have r6 := hR5.out.cell 6
              have r7 := hR5.out.cell 7
              have rf0 := hR5.out.frozen 0
              have rf1 := hR5.out.frozen 1
              have rf2 := hR5.out.frozen 2
              have rf3 := hR5.out.frozen 3
              have rf4 := hR5.out.frozen 4
              have rf5 := hR5.out.frozen 5
              have rf6 := hR5.out.frozen 6
              have rf7 := hR5.out.frozen 7
              go_wp2
              exact ret_blk rfl rfl rfl (hR5.out.eight (.int .i64 1) (.string ⟨#[]⟩) (.string ⟨#[]⟩) (.slice none 0 0) (.int .i64 S) (.slice A3 Lx.length c3) (.slice none 0 0) (.slice none 0 0)) Tryz.underlying77 rfl (by kernel_rfl) (Cn.StartR.bad hnw.out hse.out hfe.out hF.out hlt.out (hk5.out.eight (Nat.le_refl _) (.int .i64 1) (.string ⟨#[]⟩) (.string ⟨#[]⟩) (.slice none 0 0) (.int .i64 S) (.slice A3 Lx.length c3) (.slice none 0 0) (.slice none 0 0)) (hC5.out.far8 hg1 (.int .i64 1) (.string ⟨#[]⟩) (.string ⟨#[]⟩) (.slice none 0 0) (.int .i64 S) (.slice A3 Lx.length c3) (.slice none 0 0) (.slice none 0 0)) (.int .i64 1) (.string ⟨#[]⟩) (.string ⟨#[]⟩) (.slice none 0 0) (.int .i64 S) (.slice A3 Lx.length c3) (.slice none 0 0) (.slice none 0 0) ⟨_, _, _, _, _, _, _, _, _, _, rfl⟩)
  | false =>
    have hno : ¬ Cn.none_ (Cn.C.mk false closed false meth many buf kind len dec 0) := fun h => by cases h.1
    have hhE : Cn.hE (Cn.C.mk false closed false meth many buf kind len dec 0) = rqE buf := rfl
    replace hno := Lib.hid hno
    have hrd := Lib.hid (rdreq_own buf A cap w2 hbuf2.out hm hc0.out hM2.out)
    have c0 := hC2.out.cell 0
    have c5 := hC2.out.cell 5
    go_wp2_with fail
    refine hrd.out.mono ?_
    rintro e w3 ⟨h3, hb3⟩
    clear c0 c5
    have hC3 := Lib.hid (hC2.out.below hb3)
    have hO3 := Lib.hid (hO2.out.below hb3)
    have hR3 := Lib.hid (hR2.out.below hb3)
    have hk3 := Lib.hid (hk2.out.below hb3)
    have hms3 := Lib.hid (hms2.out.below hb3)
    have hW3 : w2.heap.size ≤ w3.heap.size := hb3.size
    have hW2 : w.heap.size ≤ w2.heap.size := hk2.out.size
    clear hrd hb3
    rcases h3 with ⟨k1, rfl⟩ | ⟨k1, o3, rfl, ho3⟩
    · by_cases k21 : rqE buf = 21
      · have hw : Cn.wait (Cn.C.mk false closed false meth many buf kind len dec 0) := ⟨hno.out, by rw [hhE]; exact k21⟩
        rw [k21]
        replace hw := Lib.hid hw
        replace k21 := Lib.hid k21
        replace k1 := Lib.hid k1
        replace hhE := Lib.hid hhE
        have c9 := hC3.out.cell 9
        have cf9 := hC3.out.frozen 9
        have o1 := hO3.out.cell 1
        have o2 := hO3.out.cell 2
        have o3 := hO3.out.cell 3
        have of1 := hO3.out.frozen 1
        have of2 := hO3.out.frozen 2
        have of3 := hO3.out.frozen 3
        go_upto_region 9 with (fail)
        clear c9 cf9 o1 o2 o3 of1 of2 of3
        have hC4 : Blk ((((w3.setCell ⟨w.heap.size + 1, 1, none⟩ (.string ByteArray.empty)).setCell ⟨w.heap.size + 1, 2, none⟩ (.string ByteArray.empty)).setCell ⟨w.heap.size + 1, 3, none⟩ (.slice none 0 0)).setCell ⟨g, 9, none⟩ (.iface 57 (.int .i64 21))) g 73 #[.bool false, .bool closed, .bool false, .slice Am meth.length cm, .int .i64 (many : Int), .slice A buf.length cap, .int .i64 kv, .int .i64 lv, vd, .iface 57 (.int .i64 21)] := ((((hC3.out.far (p := ⟨w.heap.size + 1, 1, none⟩) hg2 (.string ByteArray.empty)).far (p := ⟨w.heap.size + 1, 2, none⟩) hg2 (.string ByteArray.empty)).far (p := ⟨w.heap.size + 1, 3, none⟩) hg2 (.slice none 0 0)).set_ 9 (.iface 57 (.int .i64 21)))
        have hO4 : Blk ((((w3.setCell ⟨w.heap.size + 1, 1, none⟩ (.string ByteArray.empty)).setCell ⟨w.heap.size + 1, 2, none⟩ (.string ByteArray.empty)).setCell ⟨w.heap.size + 1, 3, none⟩ (.slice none 0 0)).setCell ⟨g, 9, none⟩ (.iface 57 (.int .i64 21))) (w.heap.size + 1) 77 #[.int .i64 1, .string ByteArray.empty, .string ByteArray.empty, .slice none 0 0, .int .i64 0, .slice none 0 0, .slice none 0 0, .slice none 0 0] := ((((hO3.out.set_ 1 (.string ByteArray.empty)).set_ 2 (.string ByteArray.empty)).set_ 3 (.slice none 0 0)).far (p := ⟨g, 9, none⟩) hg2.symm (.iface 57 (.int .i64 21)))
        have hR4 : Blk ((((w3.setCell ⟨w.heap.size + 1, 1, none⟩ (.string ByteArray.empty)).setCell ⟨w.heap.size + 1, 2, none⟩ (.string ByteArray.empty)).setCell ⟨w.heap.size + 1, 3, none⟩ (.slice none 0 0)).setCell ⟨g, 9, none⟩ (.iface 57 (.int .i64 21))) w.heap.size 77 #[.int .i64 0, .string ⟨#[]⟩, .string ⟨#[]⟩, .slice none 0 0, .int .i64 0, .slice none 0 0, .slice none 0 0, .slice none 0 0] := ((((hR3.out.far (p := ⟨w.heap.size + 1, 1, none⟩) hg3 (.string ByteArray.empty)).far (p := ⟨w.heap.size + 1, 2, none⟩) hg3 (.string ByteArray.empty)).far (p := ⟨w.heap.size + 1, 3, none⟩) hg3 (.slice none 0 0)).far (p := ⟨g, 9, none⟩) hg1.symm (.iface 57 (.int .i64 21)))
        have hk4 := ((((hk3.out.set_ (g := (w.heap.size + 1)) (fun h => absurd h (by omega)) 1 (.string ByteArray.empty)).set_ (g := (w.heap.size + 1)) (fun h => absurd h (by omega)) 2 (.string ByteArray.empty)).set_ (g := (w.heap.size + 1)) (fun h => absurd h (by omega)) 3 (.slice none 0 0)).set_ (g := g) (fun _ => rfl) 9 (.iface 57 (.int .i64 21)))
        generalize ((((w3.setCell ⟨w.heap.size + 1, 1, none⟩ (.string ByteArray.empty)).setCell ⟨w.heap.size + 1, 2, none⟩ (.string ByteArray.empty)).setCell ⟨w.heap.size + 1, 3, none⟩ (.slice none 0 0)).setCell ⟨g, 9, none⟩ (.iface 57 (.int .i64 21))) = w4 at *
        replace hC4 := Lib.hid hC4
        replace hO4 := Lib.hid hO4
        replace hR4 := Lib.hid hR4
        replace hk4 := Lib.hid hk4
        have qe := run_eeq 21 21
        have c9 := hC4.out.cell 9
        have cf9 := hC4.out.frozen 9
        go_upto_region 11 with (fail)
        clear c9 cf9
        clear qe
        have hC5 : Blk (w4.setCell ⟨g, 9, none⟩ (.nilIface)) g 73 #[.bool false, .bool closed, .bool false, .slice Am meth.length cm, .int .i64 (many : Int), .slice A buf.length cap, .int .i64 kv, .int .i64 lv, vd, .nilIface] := (hC4.out.set_ 9 (.nilIface))
        have hO5 : Blk (w4.setCell ⟨g, 9, none⟩ (.nilIface)) (w.heap.size + 1) 77 #[.int .i64 1, .string ByteArray.empty, .string ByteArray.empty, .slice none 0 0, .int .i64 0, .slice none 0 0, .slice none 0 0, .slice none 0 0] := (hO4.out.far (p := ⟨g, 9, none⟩) hg2.symm (.nilIface))
        have hR5 : Blk (w4.setCell ⟨g, 9, none⟩ (.nilIface)) w.heap.size 77 #[.int .i64 0, .string ⟨#[]⟩, .string ⟨#[]⟩, .slice none 0 0, .int .i64 0, .slice none 0 0, .slice none 0 0, .slice none 0 0] := (hR4.out.far (p := ⟨g, 9, none⟩) hg1.symm (.nilIface))
        have hk5 := (hk4.out.set_ (g := g) (fun _ => rfl) 9 (.nilIface))
        generalize (w4.setCell ⟨g, 9, none⟩ (.nilIface)) = w5 at *
        replace hC5 := Lib.hid hC5
        replace hO5 := Lib.hid hO5
        replace hR5 := Lib.hid hR5
        replace hk5 := Lib.hid hk5
        have o0 := hO5.out.cell 0
        have o1 := hO5.out.cell 1
        have o2 := hO5.out.cell 2
        have o3 := hO5.out.cell 3
        have o4 := hO5.out.cell 4
        have o5 := hO5.out.cell 5
        have o6 := hO5.out.cell 6
        have o7 := hO5.out.cell 7
        have r0 := hR5.out.cell 0
        have r1 := hR5.out.cell 1
        have r2 := hR5.out.cell 2
        have r3 := hR5.out.cell 3
        have r4 := hR5.out.cell 4
        have r5 := hR5.out.cell 5
        have r6 := hR5.out.cell 6
        have r7 := hR5.out.cell 7
        have rf0 := hR5.out.frozen 0
        have rf1 := hR5.out.frozen 1
        have rf2 := hR5.out.frozen 2
        have rf3 := hR5.out.frozen 3
        have rf4 := hR5.out.frozen 4
        have rf5 := hR5.out.frozen 5
        have rf6 := hR5.out.frozen 6
        have rf7 := hR5.out.frozen 7
        go_wp2
        exact ret_blk rfl rfl rfl (hR5.out.eight (.int .i64 1) (.string ByteArray.empty) (.string ByteArray.empty) (.slice none 0 0) (.int .i64 0) (.slice none 0 0) (.slice none 0 0) (.slice none 0 0)) Tryz.underlying77 rfl (by kernel_rfl) (Cn.StartR.wait hw.out rfl hF.out hlt.out (hk5.out.eight (Nat.le_refl _) (.int .i64 1) (.string ByteArray.empty) (.string ByteArray.empty) (.slice none 0 0) (.int .i64 0) (.slice none 0 0) (.slice none 0 0) (.slice none 0 0)) (hC5.out.far8 hg1 (.int .i64 1) (.string ByteArray.empty) (.string ByteArray.empty) (.slice none 0 0) (.int .i64 0) (.slice none 0 0) (.slice none 0 0) (.slice none 0 0)) hL.out (.int .i64 1) (.string ByteArray.empty) (.string ByteArray.empty) (.slice none 0 0) (.int .i64 0) (.slice none 0 0) (.slice none 0 0) (.slice none 0 0) ⟨_, _, _, _, _, _, _, _, _, _, rfl⟩)
      · have hnw : ¬ Cn.wait (Cn.C.mk false closed false meth many buf kind len dec 0) := fun h => k21 (by have := h.2; rwa [hhE] at this)
        have hse : Cn.sE (Cn.C.mk false closed false meth many buf kind len dec 0) = rqE buf := by unfold Cn.sE; rw [if_neg hno.out, hhE, if_pos k1]
        have q21 : (rqE buf == 21) = false := beq_false_of_ne k21
        generalize rqE buf = E at *
        replace hnw := Lib.hid hnw
        replace hse := Lib.hid hse
        replace hhE := Lib.hid hhE
        replace k21 := Lib.hid k21
        replace k1 := Lib.hid k1
        have c9 := hC3.out.cell 9
        have cf9 := hC3.out.frozen 9
        have o1 := hO3.out.cell 1
        have o2 := hO3.out.cell 2
        have o3 := hO3.out.cell 3
        have of1 := hO3.out.frozen 1
        have of2 := hO3.out.frozen 2
        have of3 := hO3.out.frozen 3
        go_upto_region 9 with (fail)
        clear c9 cf9 o1 o2 o3 of1 of2 of3
        have hC4 : Blk ((((w3.setCell ⟨w.heap.size + 1, 1, none⟩ (.string ByteArray.empty)).setCell ⟨w.heap.size + 1, 2, none⟩ (.string ByteArray.empty)).setCell ⟨w.heap.size + 1, 3, none⟩ (.slice none 0 0)).setCell ⟨g, 9, none⟩ (.iface 57 (.int .i64 E))) g 73 #[.bool false, .bool closed, .bool false, .slice Am meth.length cm, .int .i64 (many : Int), .slice A buf.length cap, .int .i64 kv, .int .i64 lv, vd, .iface 57 (.int .i64 E)] := ((((hC3.out.far (p := ⟨w.heap.size + 1, 1, none⟩) hg2 (.string ByteArray.empty)).far (p := ⟨w.heap.size + 1, 2, none⟩) hg2 (.string ByteArray.empty)).far (p := ⟨w.heap.size + 1, 3, none⟩) hg2 (.slice none 0 0)).set_ 9 (.iface 57 (.int .i64 E)))
        have hO4 : Blk ((((w3.setCell ⟨w.heap.size + 1, 1, none⟩ (.string ByteArray.empty)).setCell ⟨w.heap.size + 1, 2, none⟩ (.string ByteArray.empty)).setCell ⟨w.heap.size + 1, 3, none⟩ (.slice none 0 0)).setCell ⟨g, 9, none⟩ (.iface 57 (.int .i64 E))) (w.heap.size + 1) 77 #[.int .i64 1, .string ByteArray.empty, .string ByteArray.empty, .slice none 0 0, .int .i64 0, .slice none 0 0, .slice none 0 0, .slice none 0 0] := ((((hO3.out.set_ 1 (.string ByteArray.empty)).set_ 2 (.string ByteArray.empty)).set_ 3 (.slice none 0 0)).far (p := ⟨g, 9, none⟩) hg2.symm (.iface 57 (.int .i64 E)))
        have hR4 : Blk ((((w3.setCell ⟨w.heap.size + 1, 1, none⟩ (.string ByteArray.empty)).setCell ⟨w.heap.size + 1, 2, none⟩ (.string ByteArray.empty)).setCell ⟨w.heap.size + 1, 3, none⟩ (.slice none 0 0)).setCell ⟨g, 9, none⟩ (.iface 57 (.int .i64 E))) w.heap.size 77 #[.int .i64 0, .string ⟨#[]⟩, .string ⟨#[]⟩, .slice none 0 0, .int .i64 0, .slice none 0 0, .slice none 0 0, .slice none 0 0] := ((((hR3.out.far (p := ⟨w.heap.size + 1, 1, none⟩) hg3 (.string ByteArray.empty)).far (p := ⟨w.heap.size + 1, 2, none⟩) hg3 (.string ByteArray.empty)).far (p := ⟨w.heap.size + 1, 3, none⟩) hg3 (.slice none 0 0)).far (p := ⟨g, 9, none⟩) hg1.symm (.iface 57 (.int .i64 E)))
        have hk4 := ((((hk3.out.set_ (g := (w.heap.size + 1)) (fun h => absurd h (by omega)) 1 (.string ByteArray.empty)).set_ (g := (w.heap.size + 1)) (fun h => absurd h (by omega)) 2 (.string ByteArray.empty)).set_ (g := (w.heap.size + 1)) (fun h => absurd h (by omega)) 3 (.slice none 0 0)).set_ (g := g) (fun _ => rfl) 9 (.iface 57 (.int .i64 E)))
        generalize ((((w3.setCell ⟨w.heap.size + 1, 1, none⟩ (.string ByteArray.empty)).setCell ⟨w.heap.size + 1, 2, none⟩ (.string ByteArray.empty)).setCell ⟨w.heap.size + 1, 3, none⟩ (.slice none 0 0)).setCell ⟨g, 9, none⟩ (.iface 57 (.int .i64 E))) = w4 at *
        replace hC4 := Lib.hid hC4
        replace hO4 := Lib.hid hO4
        replace hR4 := Lib.hid hR4
        replace hk4 := Lib.hid hk4
        have qe := run_eeq E 21
        have c9 := hC4.out.cell 9
        have o0 := hO4.out.cell 0
        have o1 := hO4.out.cell 1
        have o2 := hO4.out.cell 2
        have o3 := hO4.out.cell 3
        have o4 := hO4.out.cell 4
        have o5 := hO4.out.cell 5
        have o6 := hO4.out.cell 6
        have o7 := hO4.out.cell 7
        have r0 := hR4.out.cell 0
        have r1 := hR4.out.cell 1
        have r2 := hR4.out.cell 2
        have r3 := hR4.out.cell 3
        have r4 := hR4.out.cell 4
        have r5 := hR4.out.cell 5
        have r6 := hR4.out.cell 6
        have r7 := hR4.out.cell 7
        have rf0 := hR4.out.frozen 0
        have rf1 := hR4.out.frozen 1
        have rf2 := hR4.out.frozen 2
        have rf3 := hR4.out.frozen 3
        have rf4 := hR4.out.frozen 4
        have rf5 := hR4.out.frozen 5
        have rf6 := hR4.out.frozen 6
        have rf7 := hR4.out.frozen 7
        go_wp2
        exact ret_blk rfl rfl rfl (hR4.out.eight (.int .i64 1) (.string ByteArray.empty) (.string ByteArray.empty) (.slice none 0 0) (.int .i64 0) (.slice none 0 0) (.slice none 0 0) (.slice none 0 0)) Tryz.underlying77 rfl (by kernel_rfl) (Cn.StartR.bad hnw.out hse.out k1.out hF.out hlt.out (hk4.out.eight (Nat.le_refl _) (.int .i64 1) (.string ByteArray.empty) (.string ByteArray.empty) (.slice none 0 0) (.int .i64 0) (.slice none 0 0) (.slice none 0 0) (.slice none 0 0)) (hC4.out.far8 hg1 (.int .i64 1) (.string ByteArray.empty) (.string ByteArray.empty) (.slice none 0 0) (.int .i64 0) (.slice none 0 0) (.slice none 0 0) (.slice none 0 0)) (.int .i64 1) (.string ByteArray.empty) (.string ByteArray.empty) (.slice none 0 0) (.int .i64 0) (.slice none 0 0) (.slice none 0 0) (.slice none 0 0) ⟨_, _, _, _, _, _, _, _, _, _, rfl⟩)
    · obtain ⟨N, hN, hN4, hNl⟩ := Cn.hd_len (c := (Cn.C.mk false closed false meth many buf kind len dec 0)) (hhE.trans k1)
      replace hN : Hd.endF buf = (N : Int) := hN
      rw [hN]
      have hFew := Cn.few_rq k1
      have hEv : Cn.hEv (Cn.C.mk false closed false meth many buf kind len dec 0) = Cn.evReq (rqM buf) (rqT buf) (rqL buf) := rfl
      have hFr : Cn.hFr (Cn.C.mk false closed false meth many buf kind len dec 0) = frame 1 (rqL buf) := rfl
      have hse0 : ∀ n, (if 64 ≤ many then (5 : Int) else (Cn.hFr (Cn.C.mk false closed false meth many buf kind len dec 0)).2) = n → Cn.sE (Cn.C.mk false closed false meth many buf kind len dec 0) = n := fun n h => by
        unfold Cn.sE; rw [if_neg hno.out, hhE, if_neg (fun h => h k1)]; exact h
      have hnw : ¬ Cn.wait (Cn.C.mk false closed false meth many buf kind len dec 0) := fun h => by have := h.2; rw [hhE, k1] at this; cases this
      have hr3 := Rd.own ho3
      generalize rqL buf = Lx at *
      generalize rqM buf = mb at *
      generalize rqT buf = tb at *
      obtain ⟨A3, c3, rfl, -, -, -⟩ := id hr3
      have hbl1 : g < w2.heap.size := hC2.out.lt
      have hbl2 : w.heap.size + 1 < w2.heap.size := hO2.out.lt
      have hoff : Off (fun k => k < w2.heap.size) (.slice A3 Lx.length c3) := fun k hk h => by have := (World.ownsRow.lt ho3 k hk).1; omega
      have hoR : ∀ k, (Value.slice A3 Lx.length c3).ownBlock = some k → w2.heap.size ≤ k ∧ k < w3.heap.size := fun k hk => World.ownsRow.lt ho3 k hk
      have hl3 := Lib.hid (Kp.refl (fun k => k < w2.heap.size) w3)
      clear ho3
      replace hoff := Lib.hid hoff
      replace hoR := Lib.hid hoR
      replace hr3 := Lib.hid hr3
      replace hN := Lib.hid hN
      replace hhE := Lib.hid hhE
      replace k1 := Lib.hid k1
      replace hnw := Lib.hid hnw
      replace hse0 := Lib.hid hse0
      replace hFr := Lib.hid hFr
      have hev := Lib.hid (fun (P : Nat → Prop) (w9 : World) (h9 : Rd w9 2 (.slice A3 Lx.length c3) Lx.length (prs Lx)) (hP : On P (.slice A3 Lx.length c3)) => show Cn.EvC w9 P (Cn.hEv (Cn.C.mk false closed false meth many buf kind len dec 0)) _ from by rw [hEv]; exact Cn.evC_req h9 hP)
      have hbl3 : w.heap.size < w2.heap.size := hR2.out.lt
      replace hEv := Lib.hid hEv
      have c9 := hC3.out.cell 9
      have cf9 := hC3.out.frozen 9
      have o1 := hO3.out.cell 1
      have o2 := hO3.out.cell 2
      have o3 := hO3.out.cell 3
      have of1 := hO3.out.frozen 1
      have of2 := hO3.out.frozen 2
      have of3 := hO3.out.frozen 3
      go_upto_region 9 with (fail)
      clear c9 cf9 o1 o2 o3 of1 of2 of3
      have hC4 : Blk ((((w3.setCell ⟨w.heap.size + 1, 1, none⟩ (.string (str mb))).setCell ⟨w.heap.size + 1, 2, none⟩ (.string (str tb))).setCell ⟨w.heap.size + 1, 3, none⟩ (.slice A3 Lx.length c3)).setCell ⟨g, 9, none⟩ (.nilIface)) g 73 #[.bool false, .bool closed, .bool false, .slice Am meth.length cm, .int .i64 (many : Int), .slice A buf.length cap, .int .i64 kv, .int .i64 lv, vd, .nilIface] := ((((hC3.out.far (p := ⟨w.heap.size + 1, 1, none⟩) hg2 (.string (str mb))).far (p := ⟨w.heap.size + 1, 2, none⟩) hg2 (.string (str tb))).far (p := ⟨w.heap.size + 1, 3, none⟩) hg2 (.slice A3 Lx.length c3)).set_ 9 (.nilIface))
      have hO4 : Blk ((((w3.setCell ⟨w.heap.size + 1, 1, none⟩ (.string (str mb))).setCell ⟨w.heap.size + 1, 2, none⟩ (.string (str tb))).setCell ⟨w.heap.size + 1, 3, none⟩ (.slice A3 Lx.length c3)).setCell ⟨g, 9, none⟩ (.nilIface)) (w.heap.size + 1) 77 #[.int .i64 1, .string (str mb), .string (str tb), .slice A3 Lx.length c3, .int .i64 0, .slice none 0 0, .slice none 0 0, .slice none 0 0] := ((((hO3.out.set_ 1 (.string (str mb))).set_ 2 (.string (str tb))).set_ 3 (.slice A3 Lx.length c3)).far (p := ⟨g, 9, none⟩) hg2.symm (.nilIface))
      have hR4 : Blk ((((w3.setCell ⟨w.heap.size + 1, 1, none⟩ (.string (str mb))).setCell ⟨w.heap.size + 1, 2, none⟩ (.string (str tb))).setCell ⟨w.heap.size + 1, 3, none⟩ (.slice A3 Lx.length c3)).setCell ⟨g, 9, none⟩ (.nilIface)) w.heap.size 77 #[.int .i64 0, .string ⟨#[]⟩, .string ⟨#[]⟩, .slice none 0 0, .int .i64 0, .slice none 0 0, .slice none 0 0, .slice none 0 0] := ((((hR3.out.far (p := ⟨w.heap.size + 1, 1, none⟩) hg3 (.string (str mb))).far (p := ⟨w.heap.size + 1, 2, none⟩) hg3 (.string (str tb))).far (p := ⟨w.heap.size + 1, 3, none⟩) hg3 (.slice A3 Lx.length c3)).far (p := ⟨g, 9, none⟩) hg1.symm (.nilIface))
      have hk4 := ((((hk3.out.set_ (g := (w.heap.size + 1)) (fun h => absurd h (by omega)) 1 (.string (str mb))).set_ (g := (w.heap.size + 1)) (fun h => absurd h (by omega)) 2 (.string (str tb))).set_ (g := (w.heap.size + 1)) (fun h => absurd h (by omega)) 3 (.slice A3 Lx.length c3)).set_ (g := g) (fun _ => rfl) 9 (.nilIface))
      have hl4 := ((((hl3.out.set_ (g := (w.heap.size + 1)) (fun _ => hbl2) 1 (.string (str mb))).set_ (g := (w.heap.size + 1)) (fun _ => hbl2) 2 (.string (str tb))).set_ (g := (w.heap.size + 1)) (fun _ => hbl2) 3 (.slice A3 Lx.length c3)).set_ (g := g) (fun _ => hbl1) 9 (.nilIface))
      generalize ((((w3.setCell ⟨w.heap.size + 1, 1, none⟩ (.string (str mb))).setCell ⟨w.heap.size + 1, 2, none⟩ (.string (str tb))).setCell ⟨w.heap.size + 1, 3, none⟩ (.slice A3 Lx.length c3)).setCell ⟨g, 9, none⟩ (.nilIface)) = w4 at *
      replace hC4 := Lib.hid hC4
      replace hO4 := Lib.hid hO4
      replace hR4 := Lib.hid hR4
      replace hk4 := Lib.hid hk4
      replace hl4 := Lib.hid hl4
      have qe := run_neq 21
      by_cases hm64 : 64 ≤ many
      · have hse := Lib.hid (hse0.out 5 (if_pos hm64))
        have g64 : (64 : Int) ≤ (many : Int) := by omega
        replace hm64 := Lib.hid hm64
        have c4 := hC4.out.cell 4
        have c9 := hC4.out.cell 9
        have cf9 := hC4.out.frozen 9
        go_upto_region 14 with (fail)
        clear c4 c9 cf9
        have hC5 : Blk (w4.setCell ⟨g, 9, none⟩ (.iface 57 (.int .i64 5))) g 73 #[.bool false, .bool closed, .bool false, .slice Am meth.length cm, .int .i64 (many : Int), .slice A buf.length cap, .int .i64 kv, .int .i64 lv, vd, .iface 57 (.int .i64 5)] := (hC4.out.set_ 9 (.iface 57 (.int .i64 5)))
        have hO5 : Blk (w4.setCell ⟨g, 9, none⟩ (.iface 57 (.int .i64 5))) (w.heap.size + 1) 77 #[.int .i64 1, .string (str mb), .string (str tb), .slice A3 Lx.length c3, .int .i64 0, .slice none 0 0, .slice none 0 0, .slice none 0 0] := (hO4.out.far (p := ⟨g, 9, none⟩) hg2.symm (.iface 57 (.int .i64 5)))
        have hR5 : Blk (w4.setCell ⟨g, 9, none⟩ (.iface 57 (.int .i64 5))) w.heap.size 77 #[.int .i64 0, .string ⟨#[]⟩, .string ⟨#[]⟩, .slice none 0 0, .int .i64 0, .slice none 0 0, .slice none 0 0, .slice none 0 0] := (hR4.out.far (p := ⟨g, 9, none⟩) hg1.symm (.iface 57 (.int .i64 5)))
        have hk5 := (hk4.out.set_ (g := g) (fun _ => rfl) 9 (.iface 57 (.int .i64 5)))
        have hl5 := (hl4.out.set_ (g := g) (fun _ => hbl1) 9 (.iface 57 (.int .i64 5)))
        generalize (w4.setCell ⟨g, 9, none⟩ (.iface 57 (.int .i64 5))) = w5 at *
        replace hC5 := Lib.hid hC5
        replace hO5 := Lib.hid hO5
        replace hR5 := Lib.hid hR5
        replace hk5 := Lib.hid hk5
        replace hl5 := Lib.hid hl5
        have c9 := hC5.out.cell 9
        have o0 := hO5.out.cell 0
        have o1 := hO5.out.cell 1
        have o2 := hO5.out.cell 2
        have o3 := hO5.out.cell 3
        have o4 := hO5.out.cell 4
        have o5 := hO5.out.cell 5
        have o6 := hO5.out.cell 6
        have o7 := hO5.out.cell 7
        have r0 := hR5.out.cell 0
        have r1 := hR5.out.cell 1
        have r2 := hR5.out.cell 2
        have r3 := hR5.out.cell 3
        have r4 := hR5.out.cell 4
        have r5 := hR5.out.cell 5
        have r6 := hR5.out.cell 6
        have r7 := hR5.out.cell 7
        have rf0 := hR5.out.frozen 0
        have rf1 := hR5.out.frozen 1
        have rf2 := hR5.out.frozen 2
        have rf3 := hR5.out.frozen 3
        have rf4 := hR5.out.frozen 4
        have rf5 := hR5.out.frozen 5
        have rf6 := hR5.out.frozen 6
        have rf7 := hR5.out.frozen 7
        go_wp2
        exact ret_blk rfl rfl rfl (hR5.out.eight (.int .i64 1) (.string (str mb)) (.string (str tb)) (.slice A3 Lx.length c3) (.int .i64 0) (.slice none 0 0) (.slice none 0 0) (.slice none 0 0)) Tryz.underlying77 rfl (by kernel_rfl) (Cn.StartR.bad hnw.out hse.out (by decide) hF.out hlt.out (hk5.out.eight (Nat.le_refl _) (.int .i64 1) (.string (str mb)) (.string (str tb)) (.slice A3 Lx.length c3) (.int .i64 0) (.slice none 0 0) (.slice none 0 0) (.slice none 0 0)) (hC5.out.far8 hg1 (.int .i64 1) (.string (str mb)) (.string (str tb)) (.slice A3 Lx.length c3) (.int .i64 0) (.slice none 0 0) (.slice none 0 0) (.slice none 0 0)) (.int .i64 1) (.string (str mb)) (.string (str tb)) (.slice A3 Lx.length c3) (.int .i64 0) (.slice none 0 0) (.slice none 0 0) (.slice none 0 0) ⟨_, _, _, _, _, _, _, _, _, _, rfl⟩)
      · have g64 : ¬ (64 : Int) ≤ (many : Int) := by omega
        have hse1 := Lib.hid (fun n (h : (Cn.hFr (Cn.C.mk false closed false meth many buf kind len dec 0)).2 = n) => hse0.out n ((if_neg hm64).trans h))
        replace hm64 := Lib.hid hm64
        have hr4 := Lib.hid (hr3.out.kp hoff.out hl4.out)
        have hOf := Lib.hid (of_request Lx (str mb) (str tb) A3 c3 w4 hFew hr4.out)
        replace hFew := Lib.hid hFew
        have c0 := hC4.out.cell 0
        have c4 := hC4.out.cell 4
        have c9 := hC4.out.cell 9
        have o1 := hO4.out.cell 1
        have o2 := hO4.out.cell 2
        have o3 := hO4.out.cell 3
        go_wp2_with fail
        refine hOf.out.mono ?_
        rintro e w5 ⟨rfl, hb5⟩
        clear c0 c4 c9 o1 o2 o3
        have hC5 := Lib.hid (hC4.out.below hb5)
        have hO5 := Lib.hid (hO4.out.below hb5)
        have hR5 := Lib.hid (hR4.out.below hb5)
        have hk5 := Lib.hid (hk4.out.below hb5)
        have hl5 := Lib.hid (hl4.out.below hb5)
        clear hb5 hOf
        rw [← hFr.out]
        obtain ⟨fk, fl, fe, hfr⟩ : ∃ fk fl fe, Cn.hFr (Cn.C.mk false closed false meth many buf kind len dec 0) = ((fk, fl), fe) := ⟨_, _, _, rfl⟩
        rw [hfr]
        rw [show frameV (((fk, fl), fe) : Fr.Out) = .agg #[.int .i64 (fk : Int), .int .i64 (fl : Int)] from rfl, show (((fk, fl), fe) : Fr.Out).2 = fe from rfl]
        by_cases hfe : fe = 0
        · have hse := Lib.hid (hse1.out 0 (by rw [hfr]; exact hfe))
          rw [show errV fe = .nilIface from by rw [hfe]; rfl]
          replace hfe := Lib.hid hfe
          have hFr := Lib.hid hfr
          clear hfr
          have c6 := hC5.out.cell 6
          have c7 := hC5.out.cell 7
          have c9 := hC5.out.cell 9
          have cf6 := hC5.out.frozen 6
          have cf7 := hC5.out.frozen 7
          have cf9 := hC5.out.frozen 9
          go_upto_region 19 with (fail)
          clear c6 c7 c9 cf6 cf7 cf9
          have hC6 : Blk (((w5.setCell ⟨g, 6, none⟩ (.int .i64 (fk : Int))).setCell ⟨g, 7, none⟩ (.int .i64 (fl : Int))).setCell ⟨g, 9, none⟩ (.nilIface)) g 73 #[.bool false, .bool closed, .bool false, .slice Am meth.length cm, .int .i64 (many : Int), .slice A buf.length cap, .int .i64 (fk : Int), .int .i64 (fl : Int), vd, .nilIface] := (((hC5.out.set_ 6 (.int .i64 (fk : Int))).set_ 7 (.int .i64 (fl : Int))).set_ 9 (.nilIface))
          have hO6 : Blk (((w5.setCell ⟨g, 6, none⟩ (.int .i64 (fk : Int))).setCell ⟨g, 7, none⟩ (.int .i64 (fl : Int))).setCell ⟨g, 9, none⟩ (.nilIface)) (w.heap.size + 1) 77 #[.int .i64 1, .string (str mb), .string (str tb), .slice A3 Lx.length c3, .int .i64 0, .slice none 0 0, .slice none 0 0, .slice none 0 0] := (((hO5.out.far (p := ⟨g, 6, none⟩) hg2.symm (.int .i64 (fk : Int))).far (p := ⟨g, 7, none⟩) hg2.symm (.int .i64 (fl : Int))).far (p := ⟨g, 9, none⟩) hg2.symm (.nilIface))
          have hR6 : Blk (((w5.setCell ⟨g, 6, none⟩ (.int .i64 (fk : Int))).setCell ⟨g, 7, none⟩ (.int .i64 (fl : Int))).setCell ⟨g, 9, none⟩ (.nilIface)) w.heap.size 77 #[.int .i64 0, .string ⟨#[]⟩, .string ⟨#[]⟩, .slice none 0 0, .int .i64 0, .slice none 0 0, .slice none 0 0, .slice none 0 0] := (((hR5.out.far (p := ⟨g, 6, none⟩) hg1.symm (.int .i64 (fk : Int))).far (p := ⟨g, 7, none⟩) hg1.symm (.int .i64 (fl : Int))).far (p := ⟨g, 9, none⟩) hg1.symm (.nilIface))
          have hk6 := (((hk5.out.set_ (g := g) (fun _ => rfl) 6 (.int .i64 (fk : Int))).set_ (g := g) (fun _ => rfl) 7 (.int .i64 (fl : Int))).set_ (g := g) (fun _ => rfl) 9 (.nilIface))
          have hl6 := (((hl5.out.set_ (g := g) (fun _ => hbl1) 6 (.int .i64 (fk : Int))).set_ (g := g) (fun _ => hbl1) 7 (.int .i64 (fl : Int))).set_ (g := g) (fun _ => hbl1) 9 (.nilIface))
          generalize (((w5.setCell ⟨g, 6, none⟩ (.int .i64 (fk : Int))).setCell ⟨g, 7, none⟩ (.int .i64 (fl : Int))).setCell ⟨g, 9, none⟩ (.nilIface)) = w6 at *
          replace hC6 := Lib.hid hC6
          replace hO6 := Lib.hid hO6
          replace hR6 := Lib.hid hR6
          replace hk6 := Lib.hid hk6
          replace hl6 := Lib.hid hl6
          have c4 := hC6.out.cell 4
          have c9 := hC6.out.cell 9
          have cf4 := hC6.out.frozen 4
          go_upto_region 22 with (fail)
          clear c4 c9 cf4
          have hC7 : Blk (w6.setCell ⟨g, 4, none⟩ (.int .i64 ((many : Int) + 1))) g 73 #[.bool false, .bool closed, .bool false, .slice Am meth.length cm, .int .i64 ((many : Int) + 1), .slice A buf.length cap, .int .i64 (fk : Int), .int .i64 (fl : Int), vd, .nilIface] := (hC6.out.set_ 4 (.int .i64 ((many : Int) + 1)))
          have hO7 : Blk (w6.setCell ⟨g, 4, none⟩ (.int .i64 ((many : Int) + 1))) (w.heap.size + 1) 77 #[.int .i64 1, .string (str mb), .string (str tb), .slice A3 Lx.length c3, .int .i64 0, .slice none 0 0, .slice none 0 0, .slice none 0 0] := (hO6.out.far (p := ⟨g, 4, none⟩) hg2.symm (.int .i64 ((many : Int) + 1)))
          have hR7 : Blk (w6.setCell ⟨g, 4, none⟩ (.int .i64 ((many : Int) + 1))) w.heap.size 77 #[.int .i64 0, .string ⟨#[]⟩, .string ⟨#[]⟩, .slice none 0 0, .int .i64 0, .slice none 0 0, .slice none 0 0, .slice none 0 0] := (hR6.out.far (p := ⟨g, 4, none⟩) hg1.symm (.int .i64 ((many : Int) + 1)))
          have hk7 := (hk6.out.set_ (g := g) (fun _ => rfl) 4 (.int .i64 ((many : Int) + 1)))
          have hl7 := (hl6.out.set_ (g := g) (fun _ => hbl1) 4 (.int .i64 ((many : Int) + 1)))
          generalize (w6.setCell ⟨g, 4, none⟩ (.int .i64 ((many : Int) + 1))) = w7 at *
          replace hC7 := Lib.hid hC7
          replace hO7 := Lib.hid hO7
          replace hR7 := Lib.hid hR7
          replace hk7 := Lib.hid hk7
          replace hl7 := Lib.hid hl7
          obtain ⟨b0, ob, hA⟩ : ∃ b o, A = some ⟨b, o, none⟩ := by
            obtain ⟨Ax, cx, ex, -, -, rx⟩ := id hbuf.out
            cases ex
            obtain ⟨b, o, e, -⟩ := rx (by omega)
            exact ⟨b, o, e⟩
          subst hA
          by_cases hcp : N = cap
          · have hcut : Hid (Cn.CutB (some ⟨b0, ob, none⟩) buf.length cap N (.slice (some ⟨b0, ob, none⟩) 0 0)) := ⟨b0, ob, rfl, hNl, hcap, .inr ⟨hcp, rfl⟩⟩
            obtain rfl : cap = buf.length := by omega
            obtain rfl : N = buf.length := hcp
            have c5 := hC7.out.cell 5
            have cf5 := hC7.out.frozen 5
            go_upto_region 23 with (fail)
            clear c5 cf5
            have hC8 : Blk (w7.setCell ⟨g, 5, none⟩ (.slice (some ⟨b0, ob, none⟩) 0 0)) g 73 #[.bool false, .bool closed, .bool false, .slice Am meth.length cm, .int .i64 ((many : Int) + 1), .slice (some ⟨b0, ob, none⟩) 0 0, .int .i64 (fk : Int), .int .i64 (fl : Int), vd, .nilIface] := (hC7.out.set_ 5 (.slice (some ⟨b0, ob, none⟩) 0 0))
            have hO8 : Blk (w7.setCell ⟨g, 5, none⟩ (.slice (some ⟨b0, ob, none⟩) 0 0)) (w.heap.size + 1) 77 #[.int .i64 1, .string (str mb), .string (str tb), .slice A3 Lx.length c3, .int .i64 0, .slice none 0 0, .slice none 0 0, .slice none 0 0] := (hO7.out.far (p := ⟨g, 5, none⟩) hg2.symm (.slice (some ⟨b0, ob, none⟩) 0 0))
            have hR8 : Blk (w7.setCell ⟨g, 5, none⟩ (.slice (some ⟨b0, ob, none⟩) 0 0)) w.heap.size 77 #[.int .i64 0, .string ⟨#[]⟩, .string ⟨#[]⟩, .slice none 0 0, .int .i64 0, .slice none 0 0, .slice none 0 0, .slice none 0 0] := (hR7.out.far (p := ⟨g, 5, none⟩) hg1.symm (.slice (some ⟨b0, ob, none⟩) 0 0))
            have hk8 := (hk7.out.set_ (g := g) (fun _ => rfl) 5 (.slice (some ⟨b0, ob, none⟩) 0 0))
            have hl8 := (hl7.out.set_ (g := g) (fun _ => hbl1) 5 (.slice (some ⟨b0, ob, none⟩) 0 0))
            generalize (w7.setCell ⟨g, 5, none⟩ (.slice (some ⟨b0, ob, none⟩) 0 0)) = w8 at *
            replace hC8 := Lib.hid hC8
            replace hO8 := Lib.hid hO8
            replace hR8 := Lib.hid hR8
            replace hk8 := Lib.hid hk8
            replace hl8 := Lib.hid hl8
            have hi : Hid (Cn.inf (Cn.C.mk false closed false meth many buf kind len dec 0) = false) := rfl
            have c0 := hC8.out.cell 0
            have c2 := hC8.out.cell 2
            have c8 := hC8.out.cell 8
            have cf2 := hC8.out.frozen 2
            have cf8 := hC8.out.frozen 8
            go_upto_region 27 with (fail)
            clear c0 c2 c8 cf2 cf8
            have hC9 : Blk ((w8.setCell ⟨g, 2, none⟩ (.bool true)).setCell ⟨g, 8, none⟩ (.pointer none)) g 73 #[.bool false, .bool closed, .bool true, .slice Am meth.length cm, .int .i64 ((many : Int) + 1), .slice (some ⟨b0, ob, none⟩) 0 0, .int .i64 (fk : Int), .int .i64 (fl : Int), .pointer none, .nilIface] := ((hC8.out.set_ 2 (.bool true)).set_ 8 (.pointer none))
            have hO9 : Blk ((w8.setCell ⟨g, 2, none⟩ (.bool true)).setCell ⟨g, 8, none⟩ (.pointer none)) (w.heap.size + 1) 77 #[.int .i64 1, .string (str mb), .string (str tb), .slice A3 Lx.length c3, .int .i64 0, .slice none 0 0, .slice none 0 0, .slice none 0 0] := ((hO8.out.far (p := ⟨g, 2, none⟩) hg2.symm (.bool true)).far (p := ⟨g, 8, none⟩) hg2.symm (.pointer none))
            have hR9 : Blk ((w8.setCell ⟨g, 2, none⟩ (.bool true)).setCell ⟨g, 8, none⟩ (.pointer none)) w.heap.size 77 #[.int .i64 0, .string ⟨#[]⟩, .string ⟨#[]⟩, .slice none 0 0, .int .i64 0, .slice none 0 0, .slice none 0 0, .slice none 0 0] := ((hR8.out.far (p := ⟨g, 2, none⟩) hg1.symm (.bool true)).far (p := ⟨g, 8, none⟩) hg1.symm (.pointer none))
            have hk9 := ((hk8.out.set_ (g := g) (fun _ => rfl) 2 (.bool true)).set_ (g := g) (fun _ => rfl) 8 (.pointer none))
            have hl9 := ((hl8.out.set_ (g := g) (fun _ => hbl1) 2 (.bool true)).set_ (g := g) (fun _ => hbl1) 8 (.pointer none))
            generalize ((w8.setCell ⟨g, 2, none⟩ (.bool true)).setCell ⟨g, 8, none⟩ (.pointer none)) = w9 at *
            replace hC9 := Lib.hid hC9
            replace hO9 := Lib.hid hO9
            replace hR9 := Lib.hid hR9
            replace hk9 := Lib.hid hk9
            replace hl9 := Lib.hid hl9
            by_cases hk3 : fk = 3
            · have q3 : ((fk : Int) == 3) = true := by rw [hk3]; rfl
              replace hk3 := Lib.hid hk3
              have c6 := hC9.out.cell 6
              go_wp2_with fail
              clear c6
              refine (cnew_any _).mono ?_
              rintro e w10 ⟨rfl, hw⟩
              have hC10 : Blk w10 g 73 #[.bool false, .bool closed, .bool true, .slice Am meth.length cm, .int .i64 ((many : Int) + 1), .slice (some ⟨b0, ob, none⟩) 0 0, .int .i64 (fk : Int), .int .i64 (fl : Int), .pointer none, .nilIface] := by rw [hw]; exact hC9.out.alloc _
              have hO10 : Blk w10 (w.heap.size + 1) 77 #[.int .i64 1, .string (str mb), .string (str tb), .slice A3 Lx.length c3, .int .i64 0, .slice none 0 0, .slice none 0 0, .slice none 0 0] := by rw [hw]; exact hO9.out.alloc _
              have hR10 : Blk w10 w.heap.size 77 #[.int .i64 0, .string ⟨#[]⟩, .string ⟨#[]⟩, .slice none 0 0, .int .i64 0, .slice none 0 0, .slice none 0 0, .slice none 0 0] := by rw [hw]; exact hR9.out.alloc _
              have hk10 : Kp (· = g) w w10 := by rw [hw]; exact hk9.out.alloc _
              have hl10 : Kp (fun k => k < w2.heap.size) w3 w10 := by rw [hw]; exact hl9.out.alloc _
              have hD10 : Blk w10 w9.heap.size 137 (Ck.cells 0 0 0 0 0 (.slice none 0 0) false 0 (.slice none 0 0) .nilIface) := by rw [hw]; exact Blk.new _ _ _
              have hgd : w.heap.size ≤ w9.heap.size := hk9.out.size
              have hgR : w9.heap.size ≠ w.heap.size := Nat.ne_of_gt hR9.out.lt
              have hgC : w9.heap.size ≠ g := Nat.ne_of_gt hC9.out.lt
              have hgd2 : On (fun k => w.heap.size ≤ k ∧ k < w9.heap.size) (.slice A3 Lx.length c3) := fun k h => by have h1 := hoR.out k h; have h2 := hl9.out.size; omega
              clear hw
              replace hC10 := Lib.hid hC10
              replace hO10 := Lib.hid hO10
              replace hR10 := Lib.hid hR10
              replace hk10 := Lib.hid hk10
              replace hl10 := Lib.hid hl10
              replace hD10 := Lib.hid hD10
              replace hgd := Lib.hid hgd
              replace hgd2 := Lib.hid hgd2
              have c8 := hC10.out.cell 8
              have cf8 := hC10.out.frozen 8
              go_upto_region 29 with (fail)
              clear c8 cf8
              have hC11 : Blk (w10.setCell ⟨g, 8, none⟩ (.pointer (some ⟨w9.heap.size, 0, none⟩))) g 73 #[.bool false, .bool closed, .bool true, .slice Am meth.length cm, .int .i64 ((many : Int) + 1), .slice (some ⟨b0, ob, none⟩) 0 0, .int .i64 (fk : Int), .int .i64 (fl : Int), .pointer (some ⟨w9.heap.size, 0, none⟩), .nilIface] := (hC10.out.set_ 8 (.pointer (some ⟨w9.heap.size, 0, none⟩)))
              have hO11 : Blk (w10.setCell ⟨g, 8, none⟩ (.pointer (some ⟨w9.heap.size, 0, none⟩))) (w.heap.size + 1) 77 #[.int .i64 1, .string (str mb), .string (str tb), .slice A3 Lx.length c3, .int .i64 0, .slice none 0 0, .slice none 0 0, .slice none 0 0] := (hO10.out.far (p := ⟨g, 8, none⟩) hg2.symm (.pointer (some ⟨w9.heap.size, 0, none⟩)))
              have hR11 : Blk (w10.setCell ⟨g, 8, none⟩ (.pointer (some ⟨w9.heap.size, 0, none⟩))) w.heap.size 77 #[.int .i64 0, .string ⟨#[]⟩, .string ⟨#[]⟩, .slice none 0 0, .int .i64 0, .slice none 0 0, .slice none 0 0, .slice none 0 0] := (hR10.out.far (p := ⟨g, 8, none⟩) hg1.symm (.pointer (some ⟨w9.heap.size, 0, none⟩)))
              have hk11 := (hk10.out.set_ (g := g) (fun _ => rfl) 8 (.pointer (some ⟨w9.heap.size, 0, none⟩)))
              have hl11 := (hl10.out.set_ (g := g) (fun _ => hbl1) 8 (.pointer (some ⟨w9.heap.size, 0, none⟩)))
              have hD11 := hD10.out.far (p := ⟨g, 8, none⟩) hgC (.pointer (some ⟨w9.heap.size, 0, none⟩))
              generalize (w10.setCell ⟨g, 8, none⟩ (.pointer (some ⟨w9.heap.size, 0, none⟩))) = w11 at *
              replace hC11 := Lib.hid hC11
              replace hO11 := Lib.hid hO11
              replace hR11 := Lib.hid hR11
              replace hk11 := Lib.hid hk11
              replace hl11 := Lib.hid hl11
              replace hD11 := Lib.hid hD11
              have o0 := hO11.out.cell 0
              have o1 := hO11.out.cell 1
              have o2 := hO11.out.cell 2
              have o3 := hO11.out.cell 3
              have o4 := hO11.out.cell 4
              have o5 := hO11.out.cell 5
              have o6 := hO11.out.cell 6
              have o7 := hO11.out.cell 7
              have r0 := hR11.out.cell 0
              have r1 := hR11.out.cell 1
              have r2 := hR11.out.cell 2
              have r3 := hR11.out.cell 3
              have r4 := hR11.out.cell 4
              have r5 := hR11.out.cell 5
              have r6 := hR11.out.cell 6
              have r7 := hR11.out.cell 7
              have rf0 := hR11.out.frozen 0
              have rf1 := hR11.out.frozen 1
              have rf2 := hR11.out.frozen 2
              have rf3 := hR11.out.frozen 3
              have rf4 := hR11.out.frozen 4
              have rf5 := hR11.out.frozen 5
              have rf6 := hR11.out.frozen 6
              have rf7 := hR11.out.frozen 7
              go_wp2
              exact ret_blk rfl rfl rfl (hR11.out.eight (.int .i64 1) (.string (str mb)) (.string (str tb)) (.slice A3 Lx.length c3) (.int .i64 0) (.slice none 0 0) (.slice none 0 0) (.slice none 0 0)) Tryz.underlying77 rfl (by kernel_rfl) (Cn.StartR.finD hL.out rfl hse.out hF.out hlt.out (hk11.out.eight (Nat.le_refl _) (.int .i64 1) (.string (str mb)) (.string (str tb)) (.slice A3 Lx.length c3) (.int .i64 0) (.slice none 0 0) (.slice none 0 0) (.slice none 0 0)) hN.out hcut.out (by rw [hFr.out, Cn.cells_sC, hi.out]; exact hC11.out.far8 hg1 (.int .i64 1) (.string (str mb)) (.string (str tb)) (.slice A3 Lx.length c3) (.int .i64 0) (.slice none 0 0) (.slice none 0 0) (.slice none 0 0)) hgd.out (hD11.out.far8 hgR (.int .i64 1) (.string (str mb)) (.string (str tb)) (.slice A3 Lx.length c3) (.int .i64 0) (.slice none 0 0) (.slice none 0 0) (.slice none 0 0)) (hev.out _ _ (hr3.out.kp hoff.out (hl11.out.eightF hbl3 (.int .i64 1) (.string (str mb)) (.string (str tb)) (.slice A3 Lx.length c3) (.int .i64 0) (.slice none 0 0) (.slice none 0 0) (.slice none 0 0))) hgd2.out))
            · have q3 : ((fk : Int) == 3) = false := beq_false_of_ne (by omega)
              have hnd : ¬ (Cn.inf (Cn.C.mk false closed false meth many buf kind len dec 0) = false ∧ (Cn.hFr (Cn.C.mk false closed false meth many buf kind len dec 0)).1.1 = 3) := fun h => hk3 (by have := h.2; rw [hFr.out] at this; exact this)
              replace hnd := Lib.hid hnd
              replace hk3 := Lib.hid hk3
              have c6 := hC9.out.cell 6
              have o0 := hO9.out.cell 0
              have o1 := hO9.out.cell 1
              have o2 := hO9.out.cell 2
              have o3 := hO9.out.cell 3
              have o4 := hO9.out.cell 4
              have o5 := hO9.out.cell 5
              have o6 := hO9.out.cell 6
              have o7 := hO9.out.cell 7
              have r0 := hR9.out.cell 0
              have r1 := hR9.out.cell 1
              have r2 := hR9.out.cell 2
              have r3 := hR9.out.cell 3
              have r4 := hR9.out.cell 4
              have r5 := hR9.out.cell 5
              have r6 := hR9.out.cell 6
              have r7 := hR9.out.cell 7
              have rf0 := hR9.out.frozen 0
              have rf1 := hR9.out.frozen 1
              have rf2 := hR9.out.frozen 2
              have rf3 := hR9.out.frozen 3
              have rf4 := hR9.out.frozen 4
              have rf5 := hR9.out.frozen 5
              have rf6 := hR9.out.frozen 6
              have rf7 := hR9.out.frozen 7
              go_wp2
              exact ret_blk rfl rfl rfl (hR9.out.eight (.int .i64 1) (.string (str mb)) (.string (str tb)) (.slice A3 Lx.length c3) (.int .i64 0) (.slice none 0 0) (.slice none 0 0) (.slice none 0 0)) Tryz.underlying77 rfl (by kernel_rfl) (Cn.StartR.fin hL.out rfl hse.out hF.out hlt.out (hk9.out.eight (Nat.le_refl _) (.int .i64 1) (.string (str mb)) (.string (str tb)) (.slice A3 Lx.length c3) (.int .i64 0) (.slice none 0 0) (.slice none 0 0) (.slice none 0 0)) hN.out hcut.out (by rw [hFr.out, Cn.cells_sC, hi.out]; exact hC9.out.far8 hg1 (.int .i64 1) (.string (str mb)) (.string (str tb)) (.slice A3 Lx.length c3) (.int .i64 0) (.slice none 0 0) (.slice none 0 0) (.slice none 0 0)) hnd.out (hev.out _ _ (hr3.out.kp hoff.out (hl9.out.eightF hbl3 (.int .i64 1) (.string (str mb)) (.string (str tb)) (.slice A3 Lx.length c3) (.int .i64 0) (.slice none 0 0) (.slice none 0 0) (.slice none 0 0))) (fun k h => ⟨Nat.le_trans hW2 (hoR.out k h).1, Nat.lt_of_lt_of_le (hoR.out k h).2 (Kp.size (hl9.out.eightF hbl3 (.int .i64 1) (.string (str mb)) (.string (str tb)) (.slice A3 Lx.length c3) (.int .i64 0) (.slice none 0 0) (.slice none 0 0) (.slice none 0 0)))⟩)))
          · have hlt2 : N < cap := by omega
            have hcut : Hid (Cn.CutB (some ⟨b0, ob, none⟩) buf.length cap N (.slice (some ⟨b0, ob + N, none⟩) (buf.length - N) (cap - N))) := ⟨b0, ob, rfl, hNl, hcap, .inl ⟨hlt2, rfl⟩⟩
            have c5 := hC7.out.cell 5
            have cf5 := hC7.out.frozen 5
            go_upto_region 23 with (fail)
            clear c5 cf5
            have hC8 : Blk (w7.setCell ⟨g, 5, none⟩ (.slice (some ⟨b0, ob + N, none⟩) (buf.length - N) (cap - N))) g 73 #[.bool false, .bool closed, .bool false, .slice Am meth.length cm, .int .i64 ((many : Int) + 1), .slice (some ⟨b0, ob + N, none⟩) (buf.length - N) (cap - N), .int .i64 (fk : Int), .int .i64 (fl : Int), vd, .nilIface] := (hC7.out.set_ 5 (.slice (some ⟨b0, ob + N, none⟩) (buf.length - N) (cap - N)))
            have hO8 : Blk (w7.setCell ⟨g, 5, none⟩ (.slice (some ⟨b0, ob + N, none⟩) (buf.length - N) (cap - N))) (w.heap.size + 1) 77 #[.int .i64 1, .string (str mb), .string (str tb), .slice A3 Lx.length c3, .int .i64 0, .slice none 0 0, .slice none 0 0, .slice none 0 0] := (hO7.out.far (p := ⟨g, 5, none⟩) hg2.symm (.slice (some ⟨b0, ob + N, none⟩) (buf.length - N) (cap - N)))
            have hR8 : Blk (w7.setCell ⟨g, 5, none⟩ (.slice (some ⟨b0, ob + N, none⟩) (buf.length - N) (cap - N))) w.heap.size 77 #[.int .i64 0, .string ⟨#[]⟩, .string ⟨#[]⟩, .slice none 0 0, .int .i64 0, .slice none 0 0, .slice none 0 0, .slice none 0 0] := (hR7.out.far (p := ⟨g, 5, none⟩) hg1.symm (.slice (some ⟨b0, ob + N, none⟩) (buf.length - N) (cap - N)))
            have hk8 := (hk7.out.set_ (g := g) (fun _ => rfl) 5 (.slice (some ⟨b0, ob + N, none⟩) (buf.length - N) (cap - N)))
            have hl8 := (hl7.out.set_ (g := g) (fun _ => hbl1) 5 (.slice (some ⟨b0, ob + N, none⟩) (buf.length - N) (cap - N)))
            generalize (w7.setCell ⟨g, 5, none⟩ (.slice (some ⟨b0, ob + N, none⟩) (buf.length - N) (cap - N))) = w8 at *
            replace hC8 := Lib.hid hC8
            replace hO8 := Lib.hid hO8
            replace hR8 := Lib.hid hR8
            replace hk8 := Lib.hid hk8
            replace hl8 := Lib.hid hl8
            have hi : Hid (Cn.inf (Cn.C.mk false closed false meth many buf kind len dec 0) = false) := rfl
            have c0 := hC8.out.cell 0
            have c2 := hC8.out.cell 2
            have c8 := hC8.out.cell 8
            have cf2 := hC8.out.frozen 2
            have cf8 := hC8.out.frozen 8
            go_upto_region 27 with (fail)
            clear c0 c2 c8 cf2 cf8
            have hC9 : Blk ((w8.setCell ⟨g, 2, none⟩ (.bool true)).setCell ⟨g, 8, none⟩ (.pointer none)) g 73 #[.bool false, .bool closed, .bool true, .slice Am meth.length cm, .int .i64 ((many : Int) + 1), .slice (some ⟨b0, ob + N, none⟩) (buf.length - N) (cap - N), .int .i64 (fk : Int), .int .i64 (fl : Int), .pointer none, .nilIface] := ((hC8.out.set_ 2 (.bool true)).set_ 8 (.pointer none))
            have hO9 : Blk ((w8.setCell ⟨g, 2, none⟩ (.bool true)).setCell ⟨g, 8, none⟩ (.pointer none)) (w.heap.size + 1) 77 #[.int .i64 1, .string (str mb), .string (str tb), .slice A3 Lx.length c3, .int .i64 0, .slice none 0 0, .slice none 0 0, .slice none 0 0] := ((hO8.out.far (p := ⟨g, 2, none⟩) hg2.symm (.bool true)).far (p := ⟨g, 8, none⟩) hg2.symm (.pointer none))
            have hR9 : Blk ((w8.setCell ⟨g, 2, none⟩ (.bool true)).setCell ⟨g, 8, none⟩ (.pointer none)) w.heap.size 77 #[.int .i64 0, .string ⟨#[]⟩, .string ⟨#[]⟩, .slice none 0 0, .int .i64 0, .slice none 0 0, .slice none 0 0, .slice none 0 0] := ((hR8.out.far (p := ⟨g, 2, none⟩) hg1.symm (.bool true)).far (p := ⟨g, 8, none⟩) hg1.symm (.pointer none))
            have hk9 := ((hk8.out.set_ (g := g) (fun _ => rfl) 2 (.bool true)).set_ (g := g) (fun _ => rfl) 8 (.pointer none))
            have hl9 := ((hl8.out.set_ (g := g) (fun _ => hbl1) 2 (.bool true)).set_ (g := g) (fun _ => hbl1) 8 (.pointer none))
            generalize ((w8.setCell ⟨g, 2, none⟩ (.bool true)).setCell ⟨g, 8, none⟩ (.pointer none)) = w9 at *
            replace hC9 := Lib.hid hC9
            replace hO9 := Lib.hid hO9
            replace hR9 := Lib.hid hR9
            replace hk9 := Lib.hid hk9
            replace hl9 := Lib.hid hl9
            by_cases hk3 : fk = 3
            · have q3 : ((fk : Int) == 3) = true := by rw [hk3]; rfl
              replace hk3 := Lib.hid hk3
              have c6 := hC9.out.cell 6
              go_wp2_with fail
              clear c6
              refine (cnew_any _).mono ?_
              rintro e w10 ⟨rfl, hw⟩
              have hC10 : Blk w10 g 73 #[.bool false, .bool closed, .bool true, .slice Am meth.length cm, .int .i64 ((many : Int) + 1), .slice (some ⟨b0, ob + N, none⟩) (buf.length - N) (cap - N), .int .i64 (fk : Int), .int .i64 (fl : Int), .pointer none, .nilIface] := by rw [hw]; exact hC9.out.alloc _
              have hO10 : Blk w10 (w.heap.size + 1) 77 #[.int .i64 1, .string (str mb), .string (str tb), .slice A3 Lx.length c3, .int .i64 0, .slice none 0 0, .slice none 0 0, .slice none 0 0] := by rw [hw]; exact hO9.out.alloc _
              have hR10 : Blk w10 w.heap.size 77 #[.int .i64 0, .string ⟨#[]⟩, .string ⟨#[]⟩, .slice none 0 0, .int .i64 0, .slice none 0 0, .slice none 0 0, .slice none 0 0] := by rw [hw]; exact hR9.out.alloc _
              have hk10 : Kp (· = g) w w10 := by rw [hw]; exact hk9.out.alloc _
              have hl10 : Kp (fun k => k < w2.heap.size) w3 w10 := by rw [hw]; exact hl9.out.alloc _
              have hD10 : Blk w10 w9.heap.size 137 (Ck.cells 0 0 0 0 0 (.slice none 0 0) false 0 (.slice none 0 0) .nilIface) := by rw [hw]; exact Blk.new _ _ _
              have hgd : w.heap.size ≤ w9.heap.size := hk9.out.size
              have hgR : w9.heap.size ≠ w.heap.size := Nat.ne_of_gt hR9.out.lt
              have hgC : w9.heap.size ≠ g := Nat.ne_of_gt hC9.out.lt
              have hgd2 : On (fun k => w.heap.size ≤ k ∧ k < w9.heap.size) (.slice A3 Lx.length c3) := fun k h => by have h1 := hoR.out k h; have h2 := hl9.out.size; omega
              clear hw
              replace hC10 := Lib.hid hC10
              replace hO10 := Lib.hid hO10
              replace hR10 := Lib.hid hR10
              replace hk10 := Lib.hid hk10
              replace hl10 := Lib.hid hl10
              replace hD10 := Lib.hid hD10
              replace hgd := Lib.hid hgd
              replace hgd2 := Lib.hid hgd2
              have c8 := hC10.out.cell 8
              have cf8 := hC10.out.frozen 8
              go_upto_region 29 with (fail)
              clear c8 cf8
              have hC11 : Blk (w10.setCell ⟨g, 8, none⟩ (.pointer (some ⟨w9.heap.size, 0, none⟩))) g 73 #[.bool false, .bool closed, .bool true, .slice Am meth.length cm, .int .i64 ((many : Int) + 1), .slice (some ⟨b0, ob + N, none⟩) (buf.length - N) (cap - N), .int .i64 (fk : Int), .int .i64 (fl : Int), .pointer (some ⟨w9.heap.size, 0, none⟩), .nilIface] := (hC10.out.set_ 8 (.pointer (some ⟨w9.heap.size, 0, none⟩)))
              have hO11 : Blk (w10.setCell ⟨g, 8, none⟩ (.pointer (some ⟨w9.heap.size, 0, none⟩))) (w.heap.size + 1) 77 #[.int .i64 1, .string (str mb), .string (str tb), .slice A3 Lx.length c3, .int .i64 0, .slice none 0 0, .slice none 0 0, .slice none 0 0] := (hO10.out.far (p := ⟨g, 8, none⟩) hg2.symm (.pointer (some ⟨w9.heap.size, 0, none⟩)))
              have hR11 : Blk (w10.setCell ⟨g, 8, none⟩ (.pointer (some ⟨w9.heap.size, 0, none⟩))) w.heap.size 77 #[.int .i64 0, .string ⟨#[]⟩, .string ⟨#[]⟩, .slice none 0 0, .int .i64 0, .slice none 0 0, .slice none 0 0, .slice none 0 0] := (hR10.out.far (p := ⟨g, 8, none⟩) hg1.symm (.pointer (some ⟨w9.heap.size, 0, none⟩)))
              have hk11 := (hk10.out.set_ (g := g) (fun _ => rfl) 8 (.pointer (some ⟨w9.heap.size, 0, none⟩)))
              have hl11 := (hl10.out.set_ (g := g) (fun _ => hbl1) 8 (.pointer (some ⟨w9.heap.size, 0, none⟩)))
              have hD11 := hD10.out.far (p := ⟨g, 8, none⟩) hgC (.pointer (some ⟨w9.heap.size, 0, none⟩))
              generalize (w10.setCell ⟨g, 8, none⟩ (.pointer (some ⟨w9.heap.size, 0, none⟩))) = w11 at *
              replace hC11 := Lib.hid hC11
              replace hO11 := Lib.hid hO11
              replace hR11 := Lib.hid hR11
              replace hk11 := Lib.hid hk11
              replace hl11 := Lib.hid hl11
              replace hD11 := Lib.hid hD11
              have o0 := hO11.out.cell 0
              have o1 := hO11.out.cell 1
              have o2 := hO11.out.cell 2
              have o3 := hO11.out.cell 3
              have o4 := hO11.out.cell 4
              have o5 := hO11.out.cell 5
              have o6 := hO11.out.cell 6
              have o7 := hO11.out.cell 7
              have r0 := hR11.out.cell 0
              have r1 := hR11.out.cell 1
              have r2 := hR11.out.cell 2
              have r3 := hR11.out.cell 3
              have r4 := hR11.out.cell 4
              have r5 := hR11.out.cell 5
              have r6 := hR11.out.cell 6
              have r7 := hR11.out.cell 7
              have rf0 := hR11.out.frozen 0
              have rf1 := hR11.out.frozen 1
              have rf2 := hR11.out.frozen 2
              have rf3 := hR11.out.frozen 3
              have rf4 := hR11.out.frozen 4
              have rf5 := hR11.out.frozen 5
              have rf6 := hR11.out.frozen 6
              have rf7 := hR11.out.frozen 7
              go_wp2
              exact ret_blk rfl rfl rfl (hR11.out.eight (.int .i64 1) (.string (str mb)) (.string (str tb)) (.slice A3 Lx.length c3) (.int .i64 0) (.slice none 0 0) (.slice none 0 0) (.slice none 0 0)) Tryz.underlying77 rfl (by kernel_rfl) (Cn.StartR.finD hL.out rfl hse.out hF.out hlt.out (hk11.out.eight (Nat.le_refl _) (.int .i64 1) (.string (str mb)) (.string (str tb)) (.slice A3 Lx.length c3) (.int .i64 0) (.slice none 0 0) (.slice none 0 0) (.slice none 0 0)) hN.out hcut.out (by rw [hFr.out, Cn.cells_sC, hi.out]; exact hC11.out.far8 hg1 (.int .i64 1) (.string (str mb)) (.string (str tb)) (.slice A3 Lx.length c3) (.int .i64 0) (.slice none 0 0) (.slice none 0 0) (.slice none 0 0)) hgd.out (hD11.out.far8 hgR (.int .i64 1) (.string (str mb)) (.string (str tb)) (.slice A3 Lx.length c3) (.int .i64 0) (.slice none 0 0) (.slice none 0 0) (.slice none 0 0)) (hev.out _ _ (hr3.out.kp hoff.out (hl11.out.eightF hbl3 (.int .i64 1) (.string (str mb)) (.string (str tb)) (.slice A3 Lx.length c3) (.int .i64 0) (.slice none 0 0) (.slice none 0 0) (.slice none 0 0))) hgd2.out))
            · have q3 : ((fk : Int) == 3) = false := beq_false_of_ne (by omega)
              have hnd : ¬ (Cn.inf (Cn.C.mk false closed false meth many buf kind len dec 0) = false ∧ (Cn.hFr (Cn.C.mk false closed false meth many buf kind len dec 0)).1.1 = 3) := fun h => hk3 (by have := h.2; rw [hFr.out] at this; exact this)
              replace hnd := Lib.hid hnd
              replace hk3 := Lib.hid hk3
              have c6 := hC9.out.cell 6
              have o0 := hO9.out.cell 0
              have o1 := hO9.out.cell 1
              have o2 := hO9.out.cell 2
              have o3 := hO9.out.cell 3
              have o4 := hO9.out.cell 4
              have o5 := hO9.out.cell 5
              have o6 := hO9.out.cell 6
              have o7 := hO9.out.cell 7
              have r0 := hR9.out.cell 0
              have r1 := hR9.out.cell 1
              have r2 := hR9.out.cell 2
              have r3 := hR9.out.cell 3
              have r4 := hR9.out.cell 4
              have r5 := hR9.out.cell 5
              have r6 := hR9.out.cell 6
              have r7 := hR9.out.cell 7
              have rf0 := hR9.out.frozen 0
              have rf1 := hR9.out.frozen 1
              have rf2 := hR9.out.frozen 2
              have rf3 := hR9.out.frozen 3
              have rf4 := hR9.out.frozen 4
              have rf5 := hR9.out.frozen 5
              have rf6 := hR9.out.frozen 6
              have rf7 := hR9.out.frozen 7
              go_wp2
              exact ret_blk rfl rfl rfl (hR9.out.eight (.int .i64 1) (.string (str mb)) (.string (str tb)) (.slice A3 Lx.length c3) (.int .i64 0) (.slice none 0 0) (.slice none 0 0) (.slice none 0 0)) Tryz.underlying77 rfl (by kernel_rfl) (Cn.StartR.fin hL.out rfl hse.out hF.out hlt.out (hk9.out.eight (Nat.le_refl _) (.int .i64 1) (.string (str mb)) (.string (str tb)) (.slice A3 Lx.length c3) (.int .i64 0) (.slice none 0 0) (.slice none 0 0) (.slice none 0 0)) hN.out hcut.out (by rw [hFr.out, Cn.cells_sC, hi.out]; exact hC9.out.far8 hg1 (.int .i64 1) (.string (str mb)) (.string (str tb)) (.slice A3 Lx.length c3) (.int .i64 0) (.slice none 0 0) (.slice none 0 0) (.slice none 0 0)) hnd.out (hev.out _ _ (hr3.out.kp hoff.out (hl9.out.eightF hbl3 (.int .i64 1) (.string (str mb)) (.string (str tb)) (.slice A3 Lx.length c3) (.int .i64 0) (.slice none 0 0) (.slice none 0 0) (.slice none 0 0))) (fun k h => ⟨Nat.le_trans hW2 (hoR.out k h).1, Nat.lt_of_lt_of_le (hoR.out k h).2 (Kp.size (hl9.out.eightF hbl3 (.int .i64 1) (.string (str mb)) (.string (str tb)) (.slice A3 Lx.length c3) (.int .i64 0) (.slice none 0 0) (.slice none 0 0) (.slice none 0 0)))⟩)))
        · have hse := Lib.hid (hse1.out fe (by rw [hfr]))
          rw [show errV fe = .iface 57 (.int .i64 fe) from if_neg hfe]
          replace hfe := Lib.hid hfe
          replace hfr := Lib.hid hfr
          have c6 := hC5.out.cell 6
          have c7 := hC5.out.cell 7
          have c9 := hC5.out.cell 9
          have cf6 := hC5.out.frozen 6
          have cf7 := hC5.out.frozen 7
          have cf9 := hC5.out.frozen 9
          go_upto_region 19 with (fail)
          clear c6 c7 c9 cf6 cf7 cf9
          have hC6 : Blk (((w5.setCell ⟨g, 6, none⟩ (.int .i64 (fk : Int))).setCell ⟨g, 7, none⟩ (.int .i64 (fl : Int))).setCell ⟨g, 9, none⟩ (.iface 57 (.int .i64 fe))) g 73 #[.bool false, .bool closed, .bool false, .slice Am meth.length cm, .int .i64 (many : Int), .slice A buf.length cap, .int .i64 (fk : Int), .int .i64 (fl : Int), vd, .iface 57 (.int .i64 fe)] := (((hC5.out.set_ 6 (.int .i64 (fk : Int))).set_ 7 (.int .i64 (fl : Int))).set_ 9 (.iface 57 (.int .i64 fe)))
          have hO6 : Blk (((w5.setCell ⟨g, 6, none⟩ (.int .i64 (fk : Int))).setCell ⟨g, 7, none⟩ (.int .i64 (fl : Int))).setCell ⟨g, 9, none⟩ (.iface 57 (.int .i64 fe))) (w.heap.size + 1) 77 #[.int .i64 1, .string (str mb), .string (str tb), .slice A3 Lx.length c3, .int .i64 0, .slice none 0 0, .slice none 0 0, .slice none 0 0] := (((hO5.out.far (p := ⟨g, 6, none⟩) hg2.symm (.int .i64 (fk : Int))).far (p := ⟨g, 7, none⟩) hg2.symm (.int .i64 (fl : Int))).far (p := ⟨g, 9, none⟩) hg2.symm (.iface 57 (.int .i64 fe)))
          have hR6 : Blk (((w5.setCell ⟨g, 6, none⟩ (.int .i64 (fk : Int))).setCell ⟨g, 7, none⟩ (.int .i64 (fl : Int))).setCell ⟨g, 9, none⟩ (.iface 57 (.int .i64 fe))) w.heap.size 77 #[.int .i64 0, .string ⟨#[]⟩, .string ⟨#[]⟩, .slice none 0 0, .int .i64 0, .slice none 0 0, .slice none 0 0, .slice none 0 0] := (((hR5.out.far (p := ⟨g, 6, none⟩) hg1.symm (.int .i64 (fk : Int))).far (p := ⟨g, 7, none⟩) hg1.symm (.int .i64 (fl : Int))).far (p := ⟨g, 9, none⟩) hg1.symm (.iface 57 (.int .i64 fe)))
          have hk6 := (((hk5.out.set_ (g := g) (fun _ => rfl) 6 (.int .i64 (fk : Int))).set_ (g := g) (fun _ => rfl) 7 (.int .i64 (fl : Int))).set_ (g := g) (fun _ => rfl) 9 (.iface 57 (.int .i64 fe)))
          have hl6 := (((hl5.out.set_ (g := g) (fun _ => hbl1) 6 (.int .i64 (fk : Int))).set_ (g := g) (fun _ => hbl1) 7 (.int .i64 (fl : Int))).set_ (g := g) (fun _ => hbl1) 9 (.iface 57 (.int .i64 fe)))
          generalize (((w5.setCell ⟨g, 6, none⟩ (.int .i64 (fk : Int))).setCell ⟨g, 7, none⟩ (.int .i64 (fl : Int))).setCell ⟨g, 9, none⟩ (.iface 57 (.int .i64 fe))) = w6 at *
          replace hC6 := Lib.hid hC6
          replace hO6 := Lib.hid hO6
          replace hR6 := Lib.hid hR6
          replace hk6 := Lib.hid hk6
          replace hl6 := Lib.hid hl6
          have c9 := hC6.out.cell 9
          have o0 := hO6.out.cell 0
          have o1 := hO6.out.cell 1
          have o2 := hO6.out.cell 2
          have o3 := hO6.out.cell 3
          have o4 := hO6.out.cell 4
          have o5 := hO6.out.cell 5
          have o6 := hO6.out.cell 6
          have o7 := hO6.out.cell 7
          have r0 := hR6.out.cell 0
          have r1 := hR6.out.cell 1
          have r2 := hR6.out.cell 2
          have r3 := hR6.out.cell 3
          have r4 := hR6.out.cell 4
          have r5 := hR6.out.cell 5
          have r6 := hR6.out.cell 6
          have r7 := hR6.out.cell 7
          have rf0 := hR6.out.frozen 0
          have rf1 := hR6.out.frozen 1
          have rf2 := hR6.out.frozen 2
          have rf3 := hR6.out.frozen 3
          have rf4 := hR6.out.frozen 4
          have rf5 := hR6.out.frozen 5
          have rf6 := hR6.out.frozen 6
          have rf7 := hR6.out.frozen 7
          go_wp2
          exact ret_blk rfl rfl rfl (hR6.out.eight (.int .i64 1) (.string (str mb)) (.string (str tb)) (.slice A3 Lx.length c3) (.int .i64 0) (.slice none 0 0) (.slice none 0 0) (.slice none 0 0)) Tryz.underlying77 rfl (by kernel_rfl) (Cn.StartR.bad hnw.out hse.out hfe.out hF.out hlt.out (hk6.out.eight (Nat.le_refl _) (.int .i64 1) (.string (str mb)) (.string (str tb)) (.slice A3 Lx.length c3) (.int .i64 0) (.slice none 0 0) (.slice none 0 0) (.slice none 0 0)) (hC6.out.far8 hg1 (.int .i64 1) (.string (str mb)) (.string (str tb)) (.slice A3 Lx.length c3) (.int .i64 0) (.slice none 0 0) (.slice none 0 0) (.slice none 0 0)) (.int .i64 1) (.string (str mb)) (.string (str tb)) (.slice A3 Lx.length c3) (.int .i64 0) (.slice none 0 0) (.slice none 0 0) (.slice none 0 0) ⟨_, _, _, _, _, _, _, _, _, _, rfl⟩)
end Go.Proofs.YtjffffpfejmoiaaGreatDoor
