/-
  Layer 3: hosts.
-/
import Derived.Test.YtemlnmelicnneaaDoorSpF
import Derived.Test.YtemlnmelicnneaaDoorGLow
import Derived.Test.YtemlnmelicnneaaDoorHMeth
namespace Go.Proofs.YtemlnmelicnneaaDoor
open Go.RowKit Syn Fr Hd

namespace Hd
def aln (c : UInt8) : Bool := (decide (48 ≤ c.toNat) && decide (c.toNat ≤ 57)) || (decide (97 ≤ c.toNat) && decide (c.toNat ≤ 122)) || (decide (65 ≤ c.toNat) && decide (c.toNat ≤ 90))
def dash (c : UInt8) : Bool := decide (c.toNat = 45)
def hch (c : UInt8) : Bool := aln c || dash c
/-- A label of a host. -/
def labB (x : List UInt8) : Bool := ((decide (1 ≤ x.length) && decide (x.length ≤ 63)) && (!x.head?.any dash && !x.getLast?.any dash)) && x.all hch
/-- A host. -/
def hostB (s : List UInt8) : Bool := decide (s.length ≤ 100) && (sp 46 s).all labB
def hsV (s : List UInt8) : List UInt8 := if hostB s = true then Syn.lower s else []
def hsE (s : List UInt8) : Int := if hostB s = true then 0 else 8
theorem hostB_long {s : List UInt8} (h : 100 < s.length) : hostB s = false := by unfold hostB; rw [decide_eq_false (by omega)]; rfl
theorem hostB_lab {s : List UInt8} {k : Nat} (h : k < (sp 46 s).length) (h2 : labB (sp 46 s)[k] = false) : hostB s = false := by
  unfold hostB
  have : (sp 46 s).all labB = false := by rw [List.all_eq_false]; exact ⟨_, List.getElem_mem h, by rw [h2]; simp⟩
  rw [this, Bool.and_false]
theorem hostB_done {s : List UInt8} (h : s.length ≤ 100) (h2 : (sp 46 s).all labB = true) : hostB s = true := by unfold hostB; rw [decide_eq_true h, h2]; rfl
theorem labs_take {l : List (List UInt8)} {k : Nat} (h : k < l.length) (h1 : (l.take k).all labB = true) (h2 : labB l[k] = true) : (l.take (k + 1)).all labB = true := by
  rw [List.take_succ_eq_append_getElem h, List.all_append, h1]; simp [h2]
theorem lab_few {s : ByteArray} (h : ¬ 1 ≤ s.size) : labB (bs s) = false := by unfold labB; rw [bs_length, decide_eq_false h]; rfl
theorem lab_many {s : ByteArray} (h : ¬ s.size ≤ 63) : labB (bs s) = false := by unfold labB; rw [bs_length, decide_eq_false h, Bool.and_false]; rfl
theorem lab_head {s : ByteArray} (h : 1 ≤ s.size) (hd : s[0].toNat = 45) : labB (bs s) = false := by
  unfold labB; rw [head_at s h, Option.any_some, show dash s[0] = true from decide_eq_true hd]; simp
theorem last_at {s : ByteArray} {m : Nat} (h : s.size = m + 1) : (bs s).getLast? = some (s[m]'(by omega)) := by
  rw [List.getLast?_eq_getElem?, bs_length, show s.size - 1 = m by omega]; exact byte_at s m (by omega)
theorem lab_last {s : ByteArray} {m : Nat} (h : s.size = m + 1) (hd : (s[m]'(by omega)).toNat = 45) : labB (bs s) = false := by
  unfold labB; rw [last_at h, Option.any_some, show dash (s[m]'(by omega)) = true from decide_eq_true hd]; simp
theorem lab_char {s : ByteArray} {j : Nat} (h : j < s.size) (hc : hch s[j] = false) : labB (bs s) = false := by
  unfold labB; rw [all_fail h hc, Bool.and_false]
theorem lab_done {s : ByteArray} {m : Nat} (h : s.size = m + 1) (h2 : s.size ≤ 63) (h3 : s[0].toNat ≠ 45) (h4 : (s[m]'(by omega)).toNat ≠ 45) (h5 : ((bs s).take s.size).all hch = true) : labB (bs s) = true := by
  unfold labB
  rw [bs_length, decide_eq_true (show 1 ≤ s.size by omega), decide_eq_true h2, all_done h5, last_at h, head_at s (by omega), Option.any_some, Option.any_some, show dash s[0] = false from decide_eq_false h3, show dash (s[m]'(by omega)) = false from decide_eq_false h4]; rfl
end Hd
set_option maxHeartbeats 1000000 in
theorem alnum_any (c : UInt8) (w : World) : Calls Tryd.prog 71 #[.int .u8 (c.toNat : Int)] w fun e w' => e = .returned (.bool (aln c)) ∧ w' = w := by
  have key : c.toNat < 48 ∨ (48 ≤ c.toNat ∧ c.toNat ≤ 57) ∨ (57 < c.toNat ∧ c.toNat < 65) ∨ (65 ≤ c.toNat ∧ c.toNat ≤ 90) ∨ (90 < c.toNat ∧ c.toNat < 97) ∨ (97 ≤ c.toNat ∧ c.toNat ≤ 122) ∨ 122 < c.toNat := by omega
  have no : (c.toNat < 48 ∨ 57 < c.toNat) → (c.toNat < 65 ∨ 90 < c.toNat) → (c.toNat < 97 ∨ 122 < c.toNat) → Hid (aln c = false) := fun h1 h2 h3 => Lib.hid (by unfold aln; simp; omega)
  have yes : (48 ≤ c.toNat ∧ c.toNat ≤ 57) ∨ (65 ≤ c.toNat ∧ c.toNat ≤ 90) ∨ (97 ≤ c.toNat ∧ c.toNat ≤ 122) → Hid (aln c = true) := fun h1 => Lib.hid (by unfold aln; simp; omega)
  rcases key with h | ⟨h, h'⟩ | ⟨h, h'⟩ | ⟨h, h'⟩ | ⟨h, h'⟩ | ⟨h, h'⟩ | h
  all_goals
    first | have e := no (by omega) (by omega) (by omega) | have e := yes (by omega)
    clear no yes
    go_enter Tryd.func71, Tryd.ntmps71
    go_wp2
    go_ret
    exact ⟨congrArg (fun b => Ending.returned (.bool b)) (by first | (rw [e.out]; done) | (rw [e.out]; simp <;> omega)), rfl⟩
set_option maxHeartbeats 1000000 in
theorem ralnum_any (c : UInt8) (w : World) : Calls Tryd.prog 73 #[.int .u8 (c.toNat : Int)] w fun e w' => e = .returned (.bool (aln c)) ∧ w' = w := by
  have key : c.toNat < 48 ∨ (48 ≤ c.toNat ∧ c.toNat ≤ 57) ∨ (57 < c.toNat ∧ c.toNat < 65) ∨ (65 ≤ c.toNat ∧ c.toNat ≤ 90) ∨ (90 < c.toNat ∧ c.toNat < 97) ∨ (97 ≤ c.toNat ∧ c.toNat ≤ 122) ∨ 122 < c.toNat := by omega
  have no : (c.toNat < 48 ∨ 57 < c.toNat) → (c.toNat < 65 ∨ 90 < c.toNat) → (c.toNat < 97 ∨ 122 < c.toNat) → Hid (aln c = false) := fun h1 h2 h3 => Lib.hid (by unfold aln; simp; omega)
  have yes : (48 ≤ c.toNat ∧ c.toNat ≤ 57) ∨ (65 ≤ c.toNat ∧ c.toNat ≤ 90) ∨ (97 ≤ c.toNat ∧ c.toNat ≤ 122) → Hid (aln c = true) := fun h1 => Lib.hid (by unfold aln; simp; omega)
  rcases key with h | ⟨h, h'⟩ | ⟨h, h'⟩ | ⟨h, h'⟩ | ⟨h, h'⟩ | ⟨h, h'⟩ | h
  all_goals
    first | have e := no (by omega) (by omega) (by omega) | have e := yes (by omega)
    clear no yes
    go_enter Tryd.func73, Tryd.ntmps73
    go_wp2
    go_ret
    exact ⟨congrArg (fun b => Ending.returned (.bool b)) (by first | (rw [e.out]; done) | (rw [e.out]; simp <;> omega)), rfl⟩
set_option maxRecDepth 100000 in
set_option maxHeartbeats 8000000 in
theorem host_any (s : ByteArray) (w : World) (hs : s.size ≤ 1000000) :
    Calls Tryd.prog 54 #[.string s] w fun e w' => e = .returned (.tuple #[.string (str (hsV (bs s))), errV (hsE (bs s))]) ∧ Below w.heap.size w w' := by
  have hn := bs_length s
  have hV : hostB (bs s) = false → Ending.returned (.tuple #[.string ByteArray.empty, .iface 59 (.int .i64 8)]) = Ending.returned (.tuple #[.string (str (hsV (bs s))), errV (hsE (bs s))]) := fun h => by
    unfold hsV hsE; rw [h]; rfl
  by_cases h100 : 100 < s.size
  · have hf := Lib.hid (hV (hostB_long (by omega)))
    clear hV
    go_enter Tryd.func54, Tryd.ntmps54
    go_wp2
    go_ret2
    exact ⟨hf.out, Below.refl _ _⟩
  · have hSp := Lib.hid (fun w => split_any s 46 w (by omega))
    have hcnt := sp_length 46 (bs s)
    have hlab := Lib.hid (fun (k : Nat) (h : k < (sp 46 (bs s)).length) (h2 : labB (sp 46 (bs s))[k] = false) => hV (hostB_lab h h2))
    have hdone := Lib.hid (fun h2 => hostB_done (s := bs s) (by omega) h2)
    have hmost := Lib.hid (sp_most 46 (bs s))
    have hcl : (bs s).count 46 ≤ (bs s).length := List.count_le_length
    generalize sp 46 (bs s) = L at *
    obtain ⟨n, hne⟩ : ∃ n, (bs s).count 46 + 1 = n := ⟨_, rfl⟩
    rw [hne] at hSp hcnt
    have hn100 : n ≤ 101 := by omega
    clear hV
    replace hne := Lib.hid hne
    replace hcnt := Lib.hid hcnt
    go_enter Tryd.func54, Tryd.ntmps54
    go_wp2_with fail
    refine (hSp.out _).mono ?_
    rintro e w1 ⟨rfl, hw1⟩
    have hA : Hid (Blk w1 w.heap.size 9 (strs L).toArray) := Lib.hid (by rw [hw1]; exact Blk.new w _ _)
    have hB1 : Hid (Below w.heap.size w w1) := Lib.hid (by rw [hw1]; exact (Below.refl _ _).alloc (Nat.le_refl _) _)
    clear hw1
    go_wp2
    go_loop [18] (fun i => ∃ k : Nat, i = .int .i64 (k : Int) ∧ k ≤ n ∧ Hid ((L.take k).all labB = true)) (fun i => n - (intOf i).toNat)
    case atStart => exact ⟨0, rfl, by omega, Lib.hid rfl⟩
    case round =>
      obtain ⟨k, rfl, hk, ha⟩ := hrel
      by_cases hlt : k < n
      · have hkL : k < L.length := by rw [hcnt.out]; exact hlt
        have d1 : w1.cell? ⟨w.heap.size, k, none⟩ = some (.string (str L[k])) := by
          rw [hA.out.cell k, List.getElem?_toArray]; exact strs_at hkL
        have hm := hmost.out L[k] (List.getElem_mem hkL)
        have hbad := Lib.hid (hlab.out k hkL)
        have hok := Lib.hid (fun h2 => labs_take hkL ha.out h2)
        have ebs : bs (str L[k]) = L[k] := bs_str _
        have hxz : (str L[k]).size ≤ 1000000 := by rw [str_size]; omega
        rw [← ebs] at hbad hok
        replace ebs := Lib.hid ebs
        generalize str L[k] = sx at *
        clear hm
        by_cases h1 : 1 ≤ sx.size
        · by_cases h63 : sx.size ≤ 63
          · obtain ⟨m, hm⟩ : ∃ m, sx.size = m + 1 := ⟨sx.size - 1, by omega⟩
            have h0 : 0 < sx.size := h1
            have hmlt : m < sx.size := by omega
            by_cases c0 : sx[0].toNat = 45
            · have q0 : ((sx[0].toNat : Int) == 45) = true := beq_cast_true c0
              have hf := Lib.hid (hbad.out (lab_head h1 c0))
              replace c0 := Lib.hid c0
              replace hm := Lib.hid hm
              go_wp2
              go_ret2
              exact ⟨hf.out, hB1.out⟩
            · have q0 : ((sx[0].toNat : Int) == 45) = false := beq_cast_false c0
              by_cases c1 : sx[m].toNat = 45
              · have q1 : ((sx[m].toNat : Int) == 45) = true := beq_cast_true c1
                have hf := Lib.hid (hbad.out (lab_last hm c1))
                replace c0 := Lib.hid c0
                replace c1 := Lib.hid c1
                go_wp2
                go_ret2
                exact ⟨hf.out, hB1.out⟩
              · have q1 : ((sx[m].toNat : Int) == 45) = false := beq_cast_false c1
                have hgood := Lib.hid (fun h5 => hok.out (lab_done hm h63 c0 c1 h5))
                replace c0 := Lib.hid c0
                replace c1 := Lib.hid c1
                go_wp2
                go_loop [44] (fun i => ∃ j : Nat, i = .int .i64 (j : Int) ∧ j ≤ m + 1 ∧ Hid (((bs sx).take j).all hch = true)) (fun i => m + 1 - (intOf i).toNat)
                case atStart => exact ⟨0, rfl, by omega, Lib.hid rfl⟩
                case round =>
                  obtain ⟨j, rfl, hj, hja⟩ := hrel
                  by_cases hjl : j < m + 1
                  · have hjs : j < sx.size := by omega
                    have hAl := Lib.hid (fun w => alnum_any sx[j] w)
                    cases ha2 : aln sx[j] with
                    | true =>
                      rw [ha2] at hAl
                      have hst := Lib.hid (all_step (p := hch) hjs hja.out (by unfold hch; rw [ha2]; rfl))
                      replace ha2 := Lib.hid ha2
                      go_wp2_with fail
                      refine (hAl.out _).mono ?_
                      rintro e w2 ⟨rfl, rfl⟩
                      go_wp2
                      go_round
                      case rel => exact ⟨j + 1, by go_num, by omega, hst⟩
                      case measure => simp [intOf]; omega
                    | false =>
                      rw [ha2] at hAl
                      by_cases cd : sx[j].toNat = 45
                      · have hst := Lib.hid (all_step (p := hch) hjs hja.out (by unfold hch dash; rw [decide_eq_true cd, Bool.or_true]))
                        have q2 : ((sx[j].toNat : Int) != 45) = false := by rw [cd]; rfl
                        replace ha2 := Lib.hid ha2
                        replace cd := Lib.hid cd
                        go_wp2_with fail
                        refine (hAl.out _).mono ?_
                        rintro e w2 ⟨rfl, rfl⟩
                        go_wp2
                        go_round
                        case rel => exact ⟨j + 1, by go_num, by omega, hst⟩
                        case measure => simp [intOf]; omega
                      · have hf := Lib.hid (hbad.out (lab_char hjs (by unfold hch dash; rw [ha2, decide_eq_false cd]; rfl)))
                        have q2 : ((sx[j].toNat : Int) != 45) = true := by rw [bne, show ((sx[j].toNat : Int) == 45) = false from beq_cast_false cd]; rfl
                        replace ha2 := Lib.hid ha2
                        replace cd := Lib.hid cd
                        go_wp2_with fail
                        refine (hAl.out _).mono ?_
                        rintro e w2 ⟨rfl, rfl⟩
                        go_wp2
                        go_ret2
                        exact ⟨hf.out, hB1.out⟩
                  · obtain rfl : j = m + 1 := by omega
                    have hst := Lib.hid (hgood.out (by rw [hm]; exact hja.out))
                    go_wp2
                    go_round
                    case rel => exact ⟨k + 1, by go_num, by omega, hst⟩
                    case measure => simp [intOf]; omega
          · have hf := Lib.hid (hbad.out (lab_many h63))
            go_wp2
            go_ret2
            exact ⟨hf.out, hB1.out⟩
        · have hf := Lib.hid (hbad.out (lab_few h1))
          go_wp2
          go_ret2
          exact ⟨hf.out, hB1.out⟩
      · obtain rfl : k = n := by omega
        have hres := hdone.out (by have := ha.out; rw [List.take_of_length_le (by rw [hcnt.out]; exact Nat.le_refl _)] at this; exact this)
        have hv1 := Lib.hid (show str (hsV (bs s)) = str (Syn.lower (bs s)) by unfold hsV; rw [if_pos hres])
        have hv2 := Lib.hid (show errV (hsE (bs s)) = .nilIface by unfold hsE; rw [if_pos hres]; rfl)
        clear hres
        obtain ⟨G, hG⟩ : ∃ G, w1.heap.size = G := ⟨_, rfl⟩
        have hGw : w.heap.size ≤ G := by rw [← hG]; exact hB1.out.size
        obtain ⟨r, hr⟩ : ∃ r, str (Syn.lower (bs s)) = r := ⟨_, rfl⟩
        have hr := Lib.hid hr
        have hc := run_bytes_of_string (P := Tryd.prog) w1 9 27 5 s Tryd.underlying9 Tryd.underlying27 Tryd.underlying5
        rw [hG] at hc
        go_wp2_with fail
        clear hc
        have hcap : s.size ≤ grownCap w1 s.size 0 5 := grownCap_ge ..
        generalize grownCap w1 s.size 0 5 = cap at *
        have hz : (bytesRow s cap).size = cap := by
          have : s.data.size = s.size := rfl
          simp [bytesRow]; omega
        have hh := bytesRow_holds s cap
        obtain ⟨cs, hcs⟩ : ∃ cs, cs = bytesRow s cap := ⟨_, rfl⟩
        rw [← hcs] at hz hh ⊢
        rw [hz]
        obtain ⟨w2, hw2⟩ : ∃ w2, w2 = (w1.alloc (Obj.cells cs 5 (cap, cap + 1))).drew := ⟨_, rfl⟩
        have hB2 : Below w.heap.size w w2 := hw2 ▸ (hB1.out.alloc hB1.out.size _).drew
        have hb2 : BlkM w2 G 5 cs cap := by
          refine ⟨?_, by omega⟩
          rw [hw2, ← hG]; show (w1.heap.push _)[w1.heap.size]? = _; simp
        rw [← hw2]
        clear hw2 hG hcs
        go_loopw [9, 10, 65] (fun _ _ i wr => ∃ (k : Nat) (cr : Array Value), i = .int .i64 k ∧ k ≤ s.size ∧ cr.size = cap ∧ BlkM wr G 5 cr cap ∧ Hid (Below w.heap.size w wr) ∧ Hid (Holds cr (Syn.lower ((bs s).take k) ++ (bs s).drop k))) (fun _ _ i _ => s.size - (intOf i).toNat)
        case atStart => exact ⟨0, cs, rfl, by omega, hz, hb2, Lib.hid hB2, hh⟩
        case round =>
          clear ha
          obtain ⟨k, cr, rfl, hk, hzr, hbr, hBr, hhr⟩ := hrel
          by_cases hlt : k < s.size
          · have hh' := hhr.out
            rw [drop_at s k hlt] at hh'
            have hln : (Syn.lower ((bs s).take k)).length = k := by rw [lower_length, List.length_take, bs_length]; omega
            have hc : wr.cell? ⟨G, k, none⟩ = some (.int .u8 (s[k].toNat : Int)) := by
              rw [hbr.cell]
              refine hh' k s[k] ?_
              rw [List.getElem?_append_right (by omega), hln]; simp
            have hf := hbr.frozen k (by omega)
            have hst := hh'.set_ (d := low s[k]) (by omega)
            rw [hln] at hst
            by_cases hu : 65 ≤ s[k].toNat ∧ s[k].toNat ≤ 90
            · have hu1 := hu.1
              have hu2 := hu.2
              have hb := hbr.set_ k (.int .u8 ((low s[k]).toNat : Int))
              rw [low_up hu1 hu2] at hst hb
              have hst := Lib.hid hst
              clear hh'
              go_wp2
              go_roundw
              case rel =>
                refine ⟨k + 1, _, by go_num, by omega, ?_, hb, Lib.hid (hBr.out.setCell hGw _), ?_⟩
                · simp [hzr]
                · rw [low_take s k hlt, List.append_assoc]; exact hst.out
              case measure => simp [intOf]; omega
            · have hlo := low_no (show s[k].toNat < 65 ∨ 90 < s[k].toNat by omega)
              have hn' : Hid (Holds cr (Syn.lower ((bs s).take (k + 1)) ++ (bs s).drop (k + 1))) := by
                rw [low_take s k hlt, List.append_assoc, hlo]; exact hh'
              clear hst hh'
              by_cases hu1 : 65 ≤ s[k].toNat
              · have hu2 : 90 < s[k].toNat := by omega
                go_wp2
                go_roundw
                case rel => exact ⟨k + 1, cr, by go_num, by omega, hzr, hbr, hBr, hn'⟩
                case measure => simp [intOf]; omega
              · have hu2 : s[k].toNat < 65 := by omega
                go_wp2
                go_roundw
                case rel => exact ⟨k + 1, cr, by go_num, by omega, hzr, hbr, hBr, hn'⟩
                case measure => simp [intOf]; omega
          · obtain rfl : k = s.size := by omega
            have hh' := hhr.out
            rw [take_all, drop_all, List.append_nil] at hh'
            have hcv := run_convert_bytes_back (P := Tryd.prog) wr 27 9 5 ⟨G, 0, none⟩ cap (Syn.lower (bs s)) Tryd.underlying27 Tryd.underlying5 Tryd.underlying9 (by
              intro j hj
              have e : (⟨G, 0, none⟩ : Addr).add j = ⟨G, 0 + j, none⟩ := by unfold Addr.add; split <;> simp_all
              rw [e, Nat.zero_add, hbr.cell]
              exact hh' j _ (List.getElem?_eq_getElem hj))
            rw [lower_length, bs_length] at hcv
            change _ = Result.ok (Value.string (str (Syn.lower (bs s)))) wr at hcv
            clear hh'
            rw [hr.out] at hcv
            go_wp2
            go_ret2
            exact ⟨by rw [hv1.out, hv2.out, hr.out]; rfl, hBr.out⟩
end Go.Proofs.YtemlnmelicnneaaDoor
