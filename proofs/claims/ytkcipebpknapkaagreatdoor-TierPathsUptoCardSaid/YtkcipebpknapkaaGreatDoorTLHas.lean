/-
  Layer 33: the law's has.
-/
import Derived.Test.YtkcipebpknapkaaGreatDoorTHas
namespace Go.Proofs.YtkcipebpknapkaaGreatDoor
open Go.RowKit Syn Ti
set_option maxHeartbeats 2000000 in
theorem lhas_any (l : List Bytes) (x : Bytes) (A : Option Addr) (cap : Nat) (w : World) (hR : Rd w 1 (.slice A l.length cap) l.length (strs l)) (hm : l.length ≤ 9223372036854775807) :
    Calls Tryz.prog 15 #[.slice A l.length cap, .string (str x)] w fun e w' => e = .returned (.bool (decide (x ∈ l))) ∧ w' = w := by
  obtain ⟨A', c', e', hc, -, hr⟩ := hR
  cases e'
  go_enter Tryz.func15, Tryz.ntmps15
  go_wp2
  go_loop [9] (fun i => ∃ k : Nat, i = .int .i64 (k : Int) ∧ k ≤ l.length ∧ Hid (x ∉ l.take k)) (fun i => l.length - (intOf i).toNat)
  case atStart => exact ⟨0, rfl, by omega, Lib.hid (by simp)⟩
  case round =>
    obtain ⟨k, rfl, hk, hno⟩ := hrel
    by_cases hlt : k < l.length
    · obtain ⟨b1, o1, rfl, _, x1⟩ := hr (by omega)
      have d1 : w.cell? ⟨b1, o1 + k, none⟩ = some (.string (str l[k])) := x1 k _ (strs_at hlt)
      by_cases he : l[k] = x
      · have hq := str_eq he
        have hin := Lib.hid (decide_eq_true (show x ∈ l from he ▸ List.getElem_mem hlt))
        replace he := Lib.hid he
        clear x1 hno
        go_wp2
        go_ret
        exact ⟨by rw [hin.out]; rfl, rfl⟩
      · have hq := str_ne he
        have hn := Lib.hid (not_mem_take hlt hno.out he)
        replace he := Lib.hid he
        clear x1 hno
        go_wp2
        go_round
        case rel => exact ⟨k + 1, by go_num, by omega, hn⟩
        case measure => simp [intOf]; omega
    · obtain rfl : k = l.length := by omega
      have hin := Lib.hid (decide_eq_false (show x ∉ l by have := hno.out; rwa [List.take_length] at this))
      go_wp2
      go_ret
      exact ⟨by rw [hin.out]; rfl, rfl⟩
end Go.Proofs.YtkcipebpknapkaaGreatDoor
