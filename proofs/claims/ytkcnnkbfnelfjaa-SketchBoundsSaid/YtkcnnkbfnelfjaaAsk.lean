import Derived.Test.YtkcnnkbfnelfjaaSk
import Derived.Deep.QuietTactic
import Derived.BigQuiet
namespace Go.Proofs.Ytkcnnkbfnelfjaa
open Go.RowKit Sk
theorem least_step (s : S) (l : List UInt8) (n : Nat) : Value.int .u8 (if s.c n (place n l s.W) < leastTo s l n then ((s.c n (place n l s.W) : Nat) : Int) else ((leastTo s l n : Nat) : Int)) = .int .u8 ((leastTo s l (n + 1) : Nat) : Int) := by
  simp only [leastTo, Nat.min_def]
  split <;> split <;> congr 1 <;> omega
set_option maxHeartbeats 400000 in
theorem place_any (a : Nat) (W : Nat) (i : Int) (s : ByteArray) (w : World) (hs : s.size ≤ maxLen) (hi0 : 0 ≤ i) (hi : i ≤ 4) (hW0 : 0 < W) (hW : W ≤ 4096)
    (hc : w.cell? ⟨a, 0, none⟩ = some (.int .i64 W)) :
    Calls Try.prog 24 #[.pointer (some ⟨a, 0, none⟩), .int .i64 i, .string s] w fun e w' => e = .returned (.int .i64 (place i s.data.toList W)) ∧ ∃ n, w' = w.drewN n := by
  have E := Lib.hid (place_eq i s.data.toList W hW0 hW)
  go_enter Try.func24, Try.ntmps24
  go_wp2_with fail
  go_quiet ((go_at_call 11; exact Calls.quiet_of_same ((hash_any _ _ _ hs).mono fun _ _ h => ⟨h.1, h.2.symm⟩)))
  go_wp2
  go_ret
  exact ⟨congrArg (fun x => Ending.returned (.int .i64 x)) E.out, _, rfl⟩
set_option maxHeartbeats 400000 in
theorem least_any {a : Nat} {lo hi : Nat} {B : Nat → Nat} {s : S} (k : ByteArray) (w : World) (h : IsSk w lo hi a B s) (hs : k.size ≤ maxLen) :
    Calls Try.prog 25 #[.pointer (some ⟨a, 0, none⟩), .string k] w fun e w' => e = .returned (.int .u8 (least s k.data.toList)) ∧ ∃ n, w' = w.drewN n := by
  have hW0 := h.W0
  have hW1 := h.W1
  go_enter Try.func25, Try.ntmps25
  go_wp2
  go_loopw [5, 6, 7] (fun o j i wr => ∃ n m : Nat, n ≤ 4 ∧ o = .int .u8 (leastTo s k.data.toList n) ∧ i = .int .i64 n ∧ wr = w.drewN m) (fun _ _ i _ => 4 - (intOf i).toNat)
  case atStart => exact ⟨0, 0, by omega, rfl, rfl, rfl⟩
  case round =>
    rename_i vj v
    obtain ⟨n, m, hn, rfl, rfl, hw⟩ := hrel
    have h' : IsSk wr lo hi a B s := hw ▸ h.drewN m
    have Hw := Lib.hid hw
    clear hw
    by_cases hlt : n < 4
    · have c0 := h'.cW
      have c1 := h'.cR n hlt
      have hp := place_lt n k.data.toList s.W (by omega)
      have c2 := h'.cC n (place n k.data.toList s.W) hlt hp
      go_wp2_with fail
      go_quiet ((go_at_call 24; refine Calls.quiet_of (place_any a s.W _ _ _ hs (by omega) (by omega) (by omega) (by omega) ?_); (simp [c0])))
      go_wp2
      go_roundw
      case rel => exact ⟨n + 1, m + nq, by omega, least_step s k.data.toList n, by go_num, by rw [Hw.out, World.drewN_drewN]⟩
      case measure => simp [intOf]; omega
    · obtain rfl : n = 4 := by omega
      go_wp2
      go_ret
      exact ⟨rfl, _, Hw.out⟩

theorem least_le (s : S) (l : List UInt8) : ∀ n, leastTo s l n ≤ 15
  | 0 => Nat.le_refl _
  | n + 1 => Nat.le_trans (Nat.min_le_left _ _) (least_le s l n)
set_option maxHeartbeats 400000 in
theorem est_any {a : Nat} {lo hi : Nat} {B : Nat → Nat} {s : S} (k : ByteArray) (w : World) (h : IsSk w lo hi a B s) (hs : k.size ≤ maxLen) :
    Calls Try.prog 19 #[.pointer (some ⟨a, 0, none⟩), .string k] w fun e w' => e = .returned (.int .i64 (est s k.data.toList)) ∧ ∃ n, w' = w.drewN n := by
  have hW0 := h.W0
  have hW1 := h.W1
  have c0 := h.cW
  have c1 := h.cD
  have hl : least s k.data.toList ≤ 15 := least_le s _ 4
  have hp := place_lt 4 k.data.toList s.W (by omega)
  have c2 := h.cB (place 4 k.data.toList s.W) hp
  have E : Hid (est s k.data.toList = least s k.data.toList + (s.d (place 4 k.data.toList s.W)).toNat) := rfl
  go_enter Try.func19, Try.ntmps19
  go_wp2_with (first | (go_at_call 25; refine (least_any k _ h hs).mono ?_; rintro e w' ⟨rfl, n, rfl⟩))
  obtain ⟨wo, hwo⟩ : ∃ wo, wo = w.drewN n := ⟨_, rfl⟩
  rw [← hwo]
  have Hwo := Lib.hid hwo
  have d0 : wo.cell? ⟨a, 0, none⟩ = some (.int .i64 s.W) := by rw [hwo]; exact c0
  have d1 : wo.cell? ⟨a, 5, none⟩ = some (.slice (some ⟨B 4, 0, none⟩) s.W s.W) := by rw [hwo]; exact c1
  have d2 : wo.cell? ⟨B 4, place 4 k.data.toList s.W, none⟩ = some (.bool (s.d (place 4 k.data.toList s.W))) := by rw [hwo]; exact c2
  clear hwo c0 c1 c2
  go_quiet ((go_at_call 24; refine Calls.quiet_of (place_any a s.W 4 _ _ hs (by omega) (by omega) (by omega) (by omega) ?_); (simp [d0])))
  go_wp2
  · rename_i hb
    go_ret
    exact ⟨congrArg (fun x => Ending.returned (.int .i64 x)) (by rw [E.out, hb]; rfl), n + nq, by rw [Hwo.out, World.drewN_drewN]⟩
  · rename_i hb
    go_ret
    exact ⟨congrArg (fun x => Ending.returned (.int .i64 x)) (by rw [E.out, hb]; rfl), n + nq, by rw [Hwo.out, World.drewN_drewN]⟩
theorem estnil_any (k : ByteArray) (w : World) :
    Calls Try.prog 19 #[.pointer none, .string k] w fun e w' => e = .returned (.int .i64 0) ∧ w = w' := by
  go_enter Try.func19, Try.ntmps19
  go_wp2
  go_ret
  exact ⟨rfl, rfl⟩

theorem added_any {a : Nat} {lo hi : Nat} {B : Nat → Nat} {s : S} (w : World) (h : IsSk w lo hi a B s) :
    Calls Try.prog 21 #[.pointer (some ⟨a, 0, none⟩)] w fun e w' => e = .returned (.int .i64 s.added) ∧ ∃ n, w' = w.drewN n := by
  have c0 := h.cA
  go_enter Try.func21, Try.ntmps21
  go_wp2
  go_ret
  exact ⟨rfl, 0, rfl⟩
theorem addednil_any (w : World) :
    Calls Try.prog 21 #[.pointer none] w fun e w' => e = .returned (.int .i64 0) ∧ w = w' := by
  go_enter Try.func21, Try.ntmps21
  go_wp2
  go_ret
  exact ⟨rfl, rfl⟩
set_option maxHeartbeats 400000 in
theorem admit_any {a : Nat} {lo hi : Nat} {B : Nat → Nat} {s : S} (k v : ByteArray) (w : World) (h : IsSk w lo hi a B s) (hs : k.size ≤ maxLen) (hv : v.size ≤ maxLen) :
    Calls Try.prog 22 #[.pointer (some ⟨a, 0, none⟩), .string k, .string v] w fun e w' => e = .returned (.bool (decide (est s v.data.toList < est s k.data.toList))) ∧ ∃ n, w' = w.drewN n := by
  go_enter Try.func22, Try.ntmps22
  go_wp2_with fail
  refine (est_any k _ h hs).mono ?_
  rintro e w' ⟨rfl, n, rfl⟩
  go_wp2_with fail
  refine (est_any v _ (h.drewN n) hv).mono ?_
  rintro e w' ⟨rfl, m, rfl⟩
  go_wp2
  go_ret
  exact ⟨rfl, n + m, rfl⟩
set_option maxHeartbeats 400000 in
theorem admitnil_any (k v : ByteArray) (w : World) :
    Calls Try.prog 22 #[.pointer none, .string k, .string v] w fun e w' => e = .returned (.bool false) ∧ w = w' := by
  go_enter Try.func22, Try.ntmps22
  go_wp2_with fail
  refine (estnil_any k _).mono ?_
  rintro e w' ⟨rfl, rfl⟩
  go_wp2_with fail
  refine (estnil_any v _).mono ?_
  rintro e w' ⟨rfl, rfl⟩
  go_wp2
  go_ret
  exact ⟨rfl, rfl⟩
end Go.Proofs.Ytkcnnkbfnelfjaa
