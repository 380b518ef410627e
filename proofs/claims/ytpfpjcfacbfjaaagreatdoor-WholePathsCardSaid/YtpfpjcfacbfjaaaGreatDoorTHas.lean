/-
  Layer 33: a name among names, and the law's count.
-/
import Derived.Test.YtpfpjcfacbfjaaaGreatDoorTSpec
import Derived.Test.YtpfpjcfacbfjaaaGreatDoorGLow
namespace Go.Proofs.YtpfpjcfacbfjaaaGreatDoor
open Go.RowKit Ti

theorem rd_take {w : World} {A : Option Addr} {cap k : Nat} {l : List Bytes} (h : Rd w 1 (.slice A l.length cap) l.length (strs l)) (hk : k ≤ l.length) : Rd w 1 (.slice A (l.take k).length cap) (l.take k).length (strs (l.take k)) := by
  obtain ⟨A', c', e, hc, hl, hr⟩ := h
  cases e
  have hlen : (l.take k).length = k := by rw [List.length_take]; omega
  refine ⟨A, cap, rfl, by omega, by rw [strs_length]; omega, fun hn => ?_⟩
  obtain ⟨b, o, rfl, hb, hx⟩ := hr (by omega)
  refine ⟨b, o, rfl, hb, fun j u hu => hx j u ?_⟩
  have e1 : strs l = strs (l.take k) ++ strs (l.drop k) := by unfold strs; rw [← List.map_append, List.take_append_drop]
  have hj : j < (strs (l.take k)).length := by
    rcases Nat.lt_or_ge j (strs (l.take k)).length with h1 | h1
    · exact h1
    · rw [List.getElem?_eq_none h1] at hu; cases hu
  rw [e1, List.getElem?_append_left hj]; exact hu
theorem not_mem_take {l : List Bytes} {k : Nat} {x : Bytes} (h : k < l.length) (h1 : x ∉ l.take k) (h2 : l[k] ≠ x) : x ∉ l.take (k + 1) := by
  rw [List.take_succ_eq_append_getElem h, List.mem_append, List.mem_singleton]
  rintro (h3 | h3)
  · exact h1 h3
  · exact h2 h3.symm
set_option maxHeartbeats 2000000 in
theorem sindex_any (l : List Bytes) (x : Bytes) (A : Option Addr) (cap : Nat) (w : World) (hR : Rd w 1 (.slice A l.length cap) l.length (strs l)) (hm : l.length ≤ 9223372036854775807) :
    Calls Tryz.prog 49 #[.slice A l.length cap, .string (str x)] w fun e w' => (∃ z : Int, e = .returned (.int .i64 z) ∧ (0 ≤ z ↔ x ∈ l)) ∧ w' = w := by
  obtain ⟨A', c', e', hc, -, hr⟩ := hR
  cases e'
  go_enter Tryz.func49, Tryz.ntmps49
  go_wp2
  go_loop [8] (fun i => ∃ k : Nat, i = .int .i64 (k : Int) ∧ k ≤ l.length ∧ Hid (x ∉ l.take k)) (fun i => l.length - (intOf i).toNat)
  case atStart => exact ⟨0, rfl, by omega, Lib.hid (by simp)⟩
  case round =>
    obtain ⟨k, rfl, hk, hno⟩ := hrel
    by_cases hlt : k < l.length
    · obtain ⟨b1, o1, rfl, _, x1⟩ := hr (by omega)
      have d1 : w.cell? ⟨b1, o1 + k, none⟩ = some (.string (str l[k])) := x1 k _ (strs_at hlt)
      by_cases he : l[k] = x
      · have hq := str_eq he.symm
        have hin := Lib.hid (decide_eq_true (show x ∈ l from he ▸ List.getElem_mem hlt))
        replace he := Lib.hid he
        clear x1 hno
        go_wp2
        go_ret
        exact ⟨⟨_, rfl, ⟨fun _ => of_decide_eq_true hin.out, fun _ => by omega⟩⟩, rfl⟩
      · have hq := str_ne (fun h => he (Eq.symm h))
        have hn := Lib.hid (not_mem_take hlt hno.out he)
        replace he := Lib.hid he
        clear x1 hno
        go_wp2
        go_round
        case rel => exact ⟨k + 1, by go_num, by omega, hn⟩
        case measure => simp [intOf]; omega
    · obtain rfl : k = l.length := by omega
      have hin := Lib.hid (decide_eq_false (show x ∉ l by have := hno.out; rwa [List.take_length] at this))
      go_wp2
      go_ret
      exact ⟨⟨-1, rfl, ⟨fun h => absurd h (by decide), fun h => absurd h (of_decide_eq_false hin.out)⟩⟩, rfl⟩
theorem contains_any (l : List Bytes) (x : Bytes) (A : Option Addr) (cap : Nat) (w : World) (hR : Rd w 1 (.slice A l.length cap) l.length (strs l)) (hm : l.length ≤ 9223372036854775807) :
    Calls Tryz.prog 28 #[.slice A l.length cap, .string (str x)] w fun e w' => e = .returned (.bool (decide (x ∈ l))) ∧ w' = w := by
  have hI := Lib.hid (fun w h => sindex_any l x A cap w h hm)
  replace hR := Lib.hid hR
  go_enter Tryz.func28, Tryz.ntmps28
  go_wp2_with fail
  refine (hI.out _ hR.out).mono ?_
  rintro e w' ⟨⟨z, rfl, hz⟩, rfl⟩
  replace hz := Lib.hid hz
  go_wp2
  go_ret
  exact ⟨congrArg (fun b => Ending.returned (.bool b)) (decide_eq_decide.2 hz.out), rfl⟩
end Go.Proofs.YtpfpjcfacbfjaaaGreatDoor
