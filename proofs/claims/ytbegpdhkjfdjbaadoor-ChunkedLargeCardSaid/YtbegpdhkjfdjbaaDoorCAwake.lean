/-
  Layer 7: a decoder that is new; Done, Trailers; a chunk is decoded; nil.
-/
import Derived.Test.YtbegpdhkjfdjbaaDoorCWrite
import Derived.Lib.SlBytesConst
import Derived.Lib.SmallJoins
namespace Go.Proofs.YtbegpdhkjfdjbaaDoor
open Go.RowKit Syn Ck

set_option maxHeartbeats 1000000 in
theorem cnew_any (w : World) : Calls Tryd.prog 12 #[] w fun e w' => e = .returned (.pointer (some ⟨w.heap.size, 0, none⟩)) ∧ w' = w.alloc (.cells (cells 0 0 0 0 0 (.slice none 0 0) false 0 (.slice none 0 0) .nilIface) 68) := by
  go_enter Tryd.func12, Tryd.ntmps12
  go_wp2
  go_ret
  exact ⟨rfl, rfl⟩
theorem Ck.Decv.new (w : World) : Decv (w.alloc (.cells (cells 0 0 0 0 0 (.slice none 0 0) false 0 (.slice none 0 0) .nilIface) 68)) w.heap.size (· = w.heap.size) zero (errV (zero.bad : Int)) := by
  refine ⟨rfl, fun k h => by rw [h, alloc_size']; omega, 0, 0, 0, 0, 0, _, _, _, _, Blk.new w _ _, by decide, fun _ => ⟨ok_zero, ⟨rfl, fun _ => ⟨rfl, rfl, rfl, rfl⟩, fun e => absurd e (by decide), fun e => absurd e (by decide)⟩, rfl, rfl, own_nil _ _ _ _, own_nil _ _ _ _, fun k h => (by cases h), fun k h => (by cases h)⟩⟩
set_option maxHeartbeats 1000000 in
theorem cdone_nil (w : World) : Calls Tryd.prog 17 #[.pointer none] w fun e w' => e = .returned (.bool false) ∧ w' = w := by
  go_enter Tryd.func17, Tryd.ntmps17
  go_wp2
  go_ret
  exact ⟨rfl, rfl⟩
set_option maxHeartbeats 1000000 in
theorem cdone_any {w : World} {g : Nat} {F : Nat → Prop} {s : St} {ev : Value} (hd : Decv w g F s ev) :
    Calls Tryd.prog 17 #[.pointer (some ⟨g, 0, none⟩)] w fun e w' => e = .returned (.bool (decide (s.place = 8))) ∧ w' = w := by
  obtain ⟨hF, hlt, p, l, d, z, t, vt, ca, tr, vf, hb, h7, hR⟩ := hd
  have c0 := hb.cell 0
  simp only [cells] at c0
  clear hR hb
  by_cases h : p = 7
  · rw [decide_eq_true (h7.1 h)]
    subst h
    clear h7
    go_enter Tryd.func17, Tryd.ntmps17
    go_wp2
    go_ret
    exact ⟨rfl, rfl⟩
  · rw [decide_eq_false (fun e => h (h7.2 e))]
    have q : (p == 7) = false := beq_eq_false_iff_ne.2 h
    clear h7
    replace h := Lib.hid h
    go_enter Tryd.func17, Tryd.ntmps17
    go_wp2
    go_ret
    exact ⟨rfl, rfl⟩
set_option maxHeartbeats 1000000 in
theorem ctrail_nil (w : World) : Calls Tryd.prog 20 #[.pointer none] w fun e w' => e = .returned (.slice none 0 0) ∧ w' = w := by
  go_enter Tryd.func20, Tryd.ntmps20
  go_wp2_with fail
  refine (cdone_nil _).mono ?_
  rintro e w' ⟨rfl, rfl⟩
  go_wp2
  go_ret
  exact ⟨rfl, rfl⟩
theorem prs_one (l : List (List UInt8 × List UInt8)) : ∀ u ∈ prs l, u.oneCell' = true := by
  intro u hu
  unfold prs at hu
  rw [List.mem_flatMap] at hu
  obtain ⟨x, -, h⟩ := hu
  rw [List.mem_cons, List.mem_singleton] at h
  rcases h with rfl | rfl <;> rfl
set_option maxRecDepth 100000 in
set_option maxHeartbeats 4000000 in
theorem fclone_any (l : List (List UInt8 × List UInt8)) (v : Value) (w : World) (ho : Own w 0 64 2 v l.length (prs l)) (hm : l.length ≤ 1000) :
    Calls Tryd.prog 34 #[v] w fun e w' => ∃ v', e = .returned v' ∧ Own w' w.heap.size 64 2 v' l.length (prs l) ∧ Below w.heap.size w w' := by
  have hl := prs_length l
  have q22 : ∀ (w : World) (a : Option Addr) (n c n' c' : Nat), (binOp .eql 42 (.slice a n c) (.slice none n' c')).run Tryd.prog w = .ok (.bool a.isNone) w := fun w a n c n' c' => Lib.run_eql_slice_nil w _ _ a n c n' c' Tryd.underlying42
  rcases id ho with ⟨-, ⟨rfl, h0⟩ | ⟨g, cap, cur, rfl, -⟩⟩
  · have hl0 := List.eq_nil_of_length_eq_zero h0
    subst hl0
    clear ho hl
    go_enter Tryd.func34, Tryd.ntmps34
    go_wp2
    go_ret
    exact ⟨_, rfl, own_nil _ _ _ _, Below.refl _ _⟩
  · have hcel : Hid (∀ j u, (prs l)[j]? = some u → (w.alloc (.cells #[] 64)).cell? ((⟨g, 0, none⟩ : Addr).add j) = some u) := Lib.hid (ho.alloc _ |>.cells rfl)
    have hmade := Lib.hid (World.ownsRow_made (base := w.heap.size) (size := 2) (e := 64) w #[] 0 (Nat.le_refl _) (Nat.zero_le _) rfl)
    replace hl := Lib.hid hl
    have hn1 := Lib.hid (prs_one l)
    have hwb := Lib.hid ((Below.refl w.heap.size w).alloc (Nat.le_refl _) (.cells #[] 64))
    have hsz := alloc_size' w (.cells #[] 64)
    replace hsz := Lib.hid hsz
    clear ho
    go_enter Tryd.func34, Tryd.ntmps34
    go_wp2_with (at_builtin; go_loud (refine step_push (B := w.heap.size) (n := 0) (m := l.length) (c := cap) (xs := []) (news := prs l) (ad := ⟨g, 0, none⟩) 42 64 (.agg #[.string ⟨#[]⟩, .string ⟨#[]⟩]) 2 32 _ _ rfl rfl Tryd.underlying42 infoCF rfl (by decide) (by decide) rfl hmade.out rfl hl.out hcel.out hn1.out (by omega) (by rw [hsz.out]; omega) ?_); intro v2 w2 ho2 hb2 _; replace ho2 := Lib.hid ho2; replace hb2 := Lib.hid hb2)
    go_ret
    exact ⟨_, rfl, by have := ho2.out; rw [Nat.zero_add] at this; exact this, hwb.out.trans hb2.out⟩
set_option maxHeartbeats 4000000 in
theorem ctrail_any {w : World} {g : Nat} {F : Nat → Prop} {s : St} {ev : Value} (hd : Decv w g F s ev) (hgood : s.place = 8 → s.bad = 0) :
    Calls Tryd.prog 20 #[.pointer (some ⟨g, 0, none⟩)] w fun e w' =>
      ∃ v, e = .returned v ∧ Own w' w.heap.size 64 2 v (if s.place = 8 then s.fields else []).length (prs (if s.place = 8 then s.fields else [])) ∧ Below w.heap.size w w' := by
  have hD := Lib.hid (cdone_any hd)
  by_cases h8 : s.place = 8
  · rw [decide_eq_true h8] at hD
    rw [if_pos h8]
    obtain ⟨hF, hlt, p, l, d, z, t, vt, ca, tr, vf, hb, h7, hR⟩ := hd
    obtain ⟨hok, -, -, -, -, hf, -⟩ := hR (hgood h8)
    have c8 := hb.cell 8
    simp only [cells] at c8
    have hC := Lib.hid (fclone_any s.fields vf w hf (by have := hok.fields; omega))
    clear hR hb h7 hlt hF hf hok hgood
    replace h8 := Lib.hid h8
    go_enter Tryd.func20, Tryd.ntmps20
    go_wp2_with fail
    refine hD.out.mono ?_
    rintro e w' ⟨rfl, rfl⟩
    go_wp2_with fail
    refine hC.out.mono ?_
    rintro e w2 ⟨v, rfl, ho, hb⟩
    replace ho := Lib.hid ho
    replace hb := Lib.hid hb
    go_wp2
    go_ret
    exact ⟨_, rfl, ho.out, hb.out⟩
  · rw [decide_eq_false h8] at hD
    rw [if_neg h8]
    clear hgood hd
    replace h8 := Lib.hid h8
    go_enter Tryd.func20, Tryd.ntmps20
    go_wp2_with fail
    refine hD.out.mono ?_
    rintro e w' ⟨rfl, rfl⟩
    go_wp2
    go_ret
    exact ⟨_, rfl, own_nil _ _ _ _, Below.refl _ _⟩
set_option maxHeartbeats 1000000 in
theorem cwrite_nil (w : World) (A : Option Addr) (n cap : Nat) : Calls Tryd.prog 13 #[.pointer none, .slice A n cap] w fun e w' => e = .returned (.tuple #[.slice none 0 0, .int .i64 0, errV 3]) ∧ w' = w := by
  go_enter Tryd.func13, Tryd.ntmps13
  go_wp2
  go_ret3
  exact ⟨rfl, rfl⟩
namespace Ck
/-- The bytes of awake. -/
def awk : List UInt8 := [51, 13, 10, 97, 98, 99, 13, 10, 48, 13, 10, 13, 10, 120]
theorem awk_wr : wr zero awk = (⟨8, 1, 0, 1, 3, 0, 2, [], [], 0⟩, [97, 98, 99], 13) := by rfl
end Ck
set_option maxRecDepth 100000 in
set_option maxHeartbeats 4000000 in
theorem cawake_any (w : World) : Calls Tryd.prog 10 #[] w fun e w' => e = .returned (.bool true) ∧ Below w.heap.size w w' := by
  have hB1 := Lib.hid ((Below.refl w.heap.size w).alloc (Nat.le_refl _) (.cells (cells 0 0 0 0 0 (.slice none 0 0) false 0 (.slice none 0 0) .nilIface) 68))
  have hD := Lib.hid (Decv.new w)
  have hsz := alloc_size' w (.cells (cells 0 0 0 0 0 (.slice none 0 0) false 0 (.slice none 0 0) .nilIface) 68)
  have hW : ∀ w1, Decv w1 w.heap.size (· = w.heap.size) zero (errV (zero.bad : Int)) → w1.heap.size = w.heap.size + 1 → Below w.heap.size w w1 → Calls Tryd.prog 13 #[.pointer (some ⟨w.heap.size, 0, none⟩), .slice (some ⟨w.heap.size + 1, 0, none⟩) 14 14] (w1.alloc (.cells (u8s awk).toArray 5 (14, 15))) fun e w' =>
      ∃ vb F', e = .returned (.tuple #[vb, .int .i64 13, .nilIface]) ∧ Own w' 0 5 1 vb 3 (u8s [97, 98, 99]) ∧ Decv w' w.heap.size F' ⟨8, 1, 0, 1, 3, 0, 2, [], [], 0⟩ .nilIface ∧ Below w.heap.size w w' := fun w1 hd hs hb => by
    have hk := (Kp.refl (fun _ => False) w1).alloc (.cells (u8s awk).toArray 5 (14, 15))
    have hbk := fun j => World.cell?_alloc_mark w1 (u8s awk).toArray 5 (14, 15) j
    rw [hs] at hbk
    have h := write_any zero (hd.kp hk (fun _ _ h => h)) awk (some ⟨w.heap.size + 1, 0, none⟩) 14 ⟨_, _, rfl, Nat.le_refl _, rfl, fun _ => ⟨w.heap.size + 1, 0, rfl, by rw [alloc_size']; omega, fun j u hu => by rw [Nat.zero_add, hbk j, List.getElem?_toArray]; exact hu⟩⟩ (fun _ k hk e => by have hk' : w.heap.size + 1 = k := Option.some.inj hk; change k = w.heap.size at e; omega) (by decide)
    refine h.mono ?_
    rintro e w' ⟨vb, F', h1, h2, h3, h4, h5, h6⟩
    rw [awk_wr] at h1 h2 h4
    exact ⟨vb, F', h1, h2.base (Nat.zero_le _), h4, (hb.alloc (by omega) _).trans (h6.toBelow (by rw [alloc_size']; omega) (fun k e => by change k = w.heap.size at e; omega))⟩
  replace hsz := Lib.hid hsz
  replace hW := Lib.hid hW
  go_enter Tryd.func10, Tryd.ntmps10
  go_wp2_with fail
  refine (cnew_any _).mono ?_
  rintro e w1 ⟨rfl, rfl⟩
  generalize w.alloc (.cells (cells 0 0 0 0 0 (.slice none 0 0) false 0 (.slice none 0 0) .nilIface) 68) = w1 at *
  have hs1 := hsz.out
  have hcv := Lib.run_convert_bytes_const (P := Tryd.prog) w1 30 5 #[.int .u8 51, .int .u8 13, .int .u8 10, .int .u8 97, .int .u8 98, .int .u8 99, .int .u8 13, .int .u8 10, .int .u8 48, .int .u8 13, .int .u8 10, .int .u8 13, .int .u8 10, .int .u8 120] 14 14 Tryd.underlying30 Tryd.underlying5
  rw [hs1] at hcv
  go_wp2_with fail
  refine (hW.out w1 hD.out hsz.out hB1.out).mono ?_
  rintro e w2 ⟨vb, F', rfl, ho, hd, hb⟩
  have hr := run_own_str (l := [97, 98, 99]) ho
  have hdn := Lib.hid (cdone_any hd)
  replace hd := Lib.hid hd
  replace ho := Lib.hid ho
  replace hb := Lib.hid hb
  have q : ((str [97, 98, 99]).toList == [97, 98, 99]) = true := by rw [str_toList]; rfl
  generalize str [97, 98, 99] = sx at *
  go_wp2_with fail
  refine hdn.out.mono ?_
  rintro e w3 ⟨rfl, rfl⟩
  go_wp2
  go_ret
  exact ⟨rfl, hb.out⟩
set_option maxHeartbeats 2000000 in
theorem none_walk (A : Option Addr) (n cap : Nat) (w : World) : Calls Tryd.prog 5 #[.slice A n cap] w fun e w' => e = .returned (.bool true) ∧ Below w.heap.size w w' := by
  go_enter Tryd.func5, Tryd.ntmps5
  go_wp2_with fail
  refine (cawake_any _).mono ?_
  rintro e w1 ⟨rfl, hb⟩
  replace hb := Lib.hid hb
  go_wp2_with fail
  refine (cwrite_nil _ _ _ _).mono ?_
  rintro e w2 ⟨rfl, rfl⟩
  go_wp2_with fail
  refine (ctrail_nil _).mono ?_
  rintro e w2 ⟨rfl, rfl⟩
  go_wp2_with fail
  refine (is_any 3 3 _).mono ?_
  rintro e w2 ⟨rfl, rfl⟩
  go_wp2_with fail
  refine (cdone_nil _).mono ?_
  rintro e w2 ⟨rfl, rfl⟩
  go_wp2
  go_ret
  exact ⟨rfl, hb.out⟩
end Go.Proofs.YtbegpdhkjfdjbaaDoor
