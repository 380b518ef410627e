/-
  Names of errors.
-/
import Derived.Test.YtodgkppjabhhlaaDoorPairs
namespace Go.Proofs.YtodgkppjabhhlaaDoor
open Go.RowKit

namespace Fr
def codes : List Int := [2, 5, 6, 21, 22, 23, 24, 25, 26, 27, 28, 29, 30, 31, 32, 33, 34]
def words : List ByteArray := [⟨#[98, 97, 100, 32, 115, 116, 97, 116, 117, 115]⟩, ⟨#[116, 111, 111, 32, 108, 97, 114, 103, 101]⟩, ⟨#[117, 110, 101, 120, 112, 101, 99, 116, 101, 100, 32, 114, 101, 115, 112, 111, 110, 115, 101]⟩, ⟨#[117, 110, 101, 120, 112, 101, 99, 116, 101, 100, 32, 101, 110, 100]⟩, ⟨#[98, 97, 100, 32, 108, 105, 110, 101, 32, 101, 110, 100]⟩, ⟨#[102, 111, 108, 100, 101, 100, 32, 108, 105, 110, 101]⟩, ⟨#[115, 112, 97, 99, 101, 32, 98, 101, 102, 111, 114, 101, 32, 99, 111, 108, 111, 110]⟩, ⟨#[98, 97, 100, 32, 102, 105, 101, 108, 100]⟩, ⟨#[98, 97, 100, 32, 109, 101, 116, 104, 111, 100]⟩, ⟨#[98, 97, 100, 32, 116, 97, 114, 103, 101, 116]⟩, ⟨#[98, 97, 100, 32, 118, 101, 114, 115, 105, 111, 110]⟩, ⟨#[98, 97, 100, 32, 104, 111, 115, 116]⟩, ⟨#[98, 97, 100, 32, 108, 101, 110, 103, 116, 104]⟩, ⟨#[98, 111, 116, 104, 32, 108, 101, 110, 103, 116, 104, 115]⟩, ⟨#[98, 97, 100, 32, 99, 111, 100, 105, 110, 103]⟩, ⟨#[98, 97, 100, 32, 99, 104, 117, 110, 107]⟩, ⟨#[98, 97, 100, 32, 116, 114, 97, 105, 108, 101, 114]⟩]
def nameGo : List Int → List ByteArray → Int → ByteArray
  | a :: r, x :: s, c => if c == a then x else nameGo r s c
  | _, _, _ => ⟨#[]⟩
def name (c : Int) : ByteArray := nameGo codes words c
theorem name_at : ∀ k, k < 17 → name (codes.getD k 0) = words.getD k ⟨#[]⟩ := by decide +kernel
theorem name_none {c : Int} (h : ∀ k, k < 17 → codes.getD k 0 ≠ c) : name c = ⟨#[]⟩ := by
  have e : ∀ k, k < 17 → (c == codes.getD k 0) = false := fun k hk => beq_false_of_ne (Ne.symm (h k hk))
  have h0 := e 0 (by decide)
  have h1 := e 1 (by decide)
  have h2 := e 2 (by decide)
  have h3 := e 3 (by decide)
  have h4 := e 4 (by decide)
  have h5 := e 5 (by decide)
  have h6 := e 6 (by decide)
  have h7 := e 7 (by decide)
  have h8 := e 8 (by decide)
  have h9 := e 9 (by decide)
  have h10 := e 10 (by decide)
  have h11 := e 11 (by decide)
  have h12 := e 12 (by decide)
  have h13 := e 13 (by decide)
  have h14 := e 14 (by decide)
  have h15 := e 15 (by decide)
  have h16 := e 16 (by decide)
  unfold name codes words
  simp only [nameGo]
  simp only [codes, List.getD_cons_zero, List.getD_cons_succ] at h0 h1 h2 h3 h4 h5 h6 h7 h8 h9 h10 h11 h12 h13 h14 h15 h16
  simp [h0, h1, h2, h3, h4, h5, h6, h7, h8, h9, h10, h11, h12, h13, h14, h15, h16]
end Fr
open Fr
theorem run_ifeq (c d : Int) (w : World) : (binOp .eql 30 (.iface 50 (.int .i64 c)) (.iface 50 (.int .i64 d))).run Tryd.prog w = .ok (.bool (c == d)) w := by kernel_rfl
theorem run_nileq (d : Int) (w : World) : (binOp .eql 30 .nilIface (.iface 50 (.int .i64 d))).run Tryd.prog w = .ok (.bool false) w := by kernel_rfl
set_option maxRecDepth 100000 in
set_option maxHeartbeats 4000000 in
theorem name_any (c : Int) (w : World) :
    Calls Tryd.prog 23 #[.iface 50 (.int .i64 c)] w fun e w' => e = .returned (.string (name c)) ∧ w' = w := by
  have hr := run_ifeq
  go_enter Tryd.func23, Tryd.ntmps23
  go_wp2
  all_goals
    go_ret
    refine ⟨?_, rfl⟩
    clear hr
    unfold name codes words
    simp only [nameGo]
    simp [*]
set_option maxRecDepth 100000 in
set_option maxHeartbeats 4000000 in
theorem name_nil (w : World) :
    Calls Tryd.prog 23 #[.nilIface] w fun e w' => e = .returned (.string ⟨#[]⟩) ∧ w' = w := by
  have hr := run_nileq
  go_enter Tryd.func23, Tryd.ntmps23
  go_wp2
  go_ret
  exact ⟨rfl, rfl⟩
theorem code_cell {k : Nat} (h : k < 17) : (#[.int .i64 2, .int .i64 5, .int .i64 6, .int .i64 21, .int .i64 22, .int .i64 23, .int .i64 24, .int .i64 25, .int .i64 26, .int .i64 27, .int .i64 28, .int .i64 29, .int .i64 30, .int .i64 31, .int .i64 32, .int .i64 33, .int .i64 34] : Array Value)[k]? = some (.int .i64 (codes.getD k 0)) := by
  rw [← Array.getElem?_toList]
  show (codes.map fun z => Value.int .i64 z)[k]? = _
  have hl : k < codes.length := h
  rw [List.getElem?_map, List.getElem?_eq_getElem hl, List.getD_eq_getElem?_getD, List.getElem?_eq_getElem hl]; rfl
theorem word_cell {k : Nat} (h : k < 17) : (#[.string ⟨#[98, 97, 100, 32, 115, 116, 97, 116, 117, 115]⟩, .string ⟨#[116, 111, 111, 32, 108, 97, 114, 103, 101]⟩, .string ⟨#[117, 110, 101, 120, 112, 101, 99, 116, 101, 100, 32, 114, 101, 115, 112, 111, 110, 115, 101]⟩, .string ⟨#[117, 110, 101, 120, 112, 101, 99, 116, 101, 100, 32, 101, 110, 100]⟩, .string ⟨#[98, 97, 100, 32, 108, 105, 110, 101, 32, 101, 110, 100]⟩, .string ⟨#[102, 111, 108, 100, 101, 100, 32, 108, 105, 110, 101]⟩, .string ⟨#[115, 112, 97, 99, 101, 32, 98, 101, 102, 111, 114, 101, 32, 99, 111, 108, 111, 110]⟩, .string ⟨#[98, 97, 100, 32, 102, 105, 101, 108, 100]⟩, .string ⟨#[98, 97, 100, 32, 109, 101, 116, 104, 111, 100]⟩, .string ⟨#[98, 97, 100, 32, 116, 97, 114, 103, 101, 116]⟩, .string ⟨#[98, 97, 100, 32, 118, 101, 114, 115, 105, 111, 110]⟩, .string ⟨#[98, 97, 100, 32, 104, 111, 115, 116]⟩, .string ⟨#[98, 97, 100, 32, 108, 101, 110, 103, 116, 104]⟩, .string ⟨#[98, 111, 116, 104, 32, 108, 101, 110, 103, 116, 104, 115]⟩, .string ⟨#[98, 97, 100, 32, 99, 111, 100, 105, 110, 103]⟩, .string ⟨#[98, 97, 100, 32, 99, 104, 117, 110, 107]⟩, .string ⟨#[98, 97, 100, 32, 116, 114, 97, 105, 108, 101, 114]⟩] : Array Value)[k]? = some (.string (words.getD k ⟨#[]⟩)) := by
  rw [← Array.getElem?_toList]
  show (words.map fun z => Value.string z)[k]? = _
  have hl : k < words.length := h
  rw [List.getElem?_map, List.getElem?_eq_getElem hl, List.getD_eq_getElem?_getD, List.getElem?_eq_getElem hl]; rfl
set_option maxRecDepth 100000 in
set_option maxHeartbeats 8000000 in
theorem rname_any (c : Int) (w : World) :
    Calls Tryd.prog 24 #[.int .i64 c] w fun e w' => e = .returned (.string (name c)) ∧ Below w.heap.size w w' := by
  obtain ⟨G, hG⟩ : ∃ G, w.heap.size = G := ⟨_, rfl⟩
  have hE := (Blk.new w 50 #[.int .i64 2, .int .i64 5, .int .i64 6, .int .i64 21, .int .i64 22, .int .i64 23, .int .i64 24, .int .i64 25, .int .i64 26, .int .i64 27, .int .i64 28, .int .i64 29, .int .i64 30, .int .i64 31, .int .i64 32, .int .i64 33, .int .i64 34]).alloc (.cells #[.string ⟨#[98, 97, 100, 32, 115, 116, 97, 116, 117, 115]⟩, .string ⟨#[116, 111, 111, 32, 108, 97, 114, 103, 101]⟩, .string ⟨#[117, 110, 101, 120, 112, 101, 99, 116, 101, 100, 32, 114, 101, 115, 112, 111, 110, 115, 101]⟩, .string ⟨#[117, 110, 101, 120, 112, 101, 99, 116, 101, 100, 32, 101, 110, 100]⟩, .string ⟨#[98, 97, 100, 32, 108, 105, 110, 101, 32, 101, 110, 100]⟩, .string ⟨#[102, 111, 108, 100, 101, 100, 32, 108, 105, 110, 101]⟩, .string ⟨#[115, 112, 97, 99, 101, 32, 98, 101, 102, 111, 114, 101, 32, 99, 111, 108, 111, 110]⟩, .string ⟨#[98, 97, 100, 32, 102, 105, 101, 108, 100]⟩, .string ⟨#[98, 97, 100, 32, 109, 101, 116, 104, 111, 100]⟩, .string ⟨#[98, 97, 100, 32, 116, 97, 114, 103, 101, 116]⟩, .string ⟨#[98, 97, 100, 32, 118, 101, 114, 115, 105, 111, 110]⟩, .string ⟨#[98, 97, 100, 32, 104, 111, 115, 116]⟩, .string ⟨#[98, 97, 100, 32, 108, 101, 110, 103, 116, 104]⟩, .string ⟨#[98, 111, 116, 104, 32, 108, 101, 110, 103, 116, 104, 115]⟩, .string ⟨#[98, 97, 100, 32, 99, 111, 100, 105, 110, 103]⟩, .string ⟨#[98, 97, 100, 32, 99, 104, 117, 110, 107]⟩, .string ⟨#[98, 97, 100, 32, 116, 114, 97, 105, 108, 101, 114]⟩] 9)
  have hW := Blk.new (w.alloc (.cells #[.int .i64 2, .int .i64 5, .int .i64 6, .int .i64 21, .int .i64 22, .int .i64 23, .int .i64 24, .int .i64 25, .int .i64 26, .int .i64 27, .int .i64 28, .int .i64 29, .int .i64 30, .int .i64 31, .int .i64 32, .int .i64 33, .int .i64 34] 50)) 9 #[.string ⟨#[98, 97, 100, 32, 115, 116, 97, 116, 117, 115]⟩, .string ⟨#[116, 111, 111, 32, 108, 97, 114, 103, 101]⟩, .string ⟨#[117, 110, 101, 120, 112, 101, 99, 116, 101, 100, 32, 114, 101, 115, 112, 111, 110, 115, 101]⟩, .string ⟨#[117, 110, 101, 120, 112, 101, 99, 116, 101, 100, 32, 101, 110, 100]⟩, .string ⟨#[98, 97, 100, 32, 108, 105, 110, 101, 32, 101, 110, 100]⟩, .string ⟨#[102, 111, 108, 100, 101, 100, 32, 108, 105, 110, 101]⟩, .string ⟨#[115, 112, 97, 99, 101, 32, 98, 101, 102, 111, 114, 101, 32, 99, 111, 108, 111, 110]⟩, .string ⟨#[98, 97, 100, 32, 102, 105, 101, 108, 100]⟩, .string ⟨#[98, 97, 100, 32, 109, 101, 116, 104, 111, 100]⟩, .string ⟨#[98, 97, 100, 32, 116, 97, 114, 103, 101, 116]⟩, .string ⟨#[98, 97, 100, 32, 118, 101, 114, 115, 105, 111, 110]⟩, .string ⟨#[98, 97, 100, 32, 104, 111, 115, 116]⟩, .string ⟨#[98, 97, 100, 32, 108, 101, 110, 103, 116, 104]⟩, .string ⟨#[98, 111, 116, 104, 32, 108, 101, 110, 103, 116, 104, 115]⟩, .string ⟨#[98, 97, 100, 32, 99, 111, 100, 105, 110, 103]⟩, .string ⟨#[98, 97, 100, 32, 99, 104, 117, 110, 107]⟩, .string ⟨#[98, 97, 100, 32, 116, 114, 97, 105, 108, 101, 114]⟩]
  have hB := ((Below.refl w.heap.size w).alloc (Nat.le_refl _) (.cells #[.int .i64 2, .int .i64 5, .int .i64 6, .int .i64 21, .int .i64 22, .int .i64 23, .int .i64 24, .int .i64 25, .int .i64 26, .int .i64 27, .int .i64 28, .int .i64 29, .int .i64 30, .int .i64 31, .int .i64 32, .int .i64 33, .int .i64 34] 50)).alloc (by rw [alloc_size']; omega) (.cells #[.string ⟨#[98, 97, 100, 32, 115, 116, 97, 116, 117, 115]⟩, .string ⟨#[116, 111, 111, 32, 108, 97, 114, 103, 101]⟩, .string ⟨#[117, 110, 101, 120, 112, 101, 99, 116, 101, 100, 32, 114, 101, 115, 112, 111, 110, 115, 101]⟩, .string ⟨#[117, 110, 101, 120, 112, 101, 99, 116, 101, 100, 32, 101, 110, 100]⟩, .string ⟨#[98, 97, 100, 32, 108, 105, 110, 101, 32, 101, 110, 100]⟩, .string ⟨#[102, 111, 108, 100, 101, 100, 32, 108, 105, 110, 101]⟩, .string ⟨#[115, 112, 97, 99, 101, 32, 98, 101, 102, 111, 114, 101, 32, 99, 111, 108, 111, 110]⟩, .string ⟨#[98, 97, 100, 32, 102, 105, 101, 108, 100]⟩, .string ⟨#[98, 97, 100, 32, 109, 101, 116, 104, 111, 100]⟩, .string ⟨#[98, 97, 100, 32, 116, 97, 114, 103, 101, 116]⟩, .string ⟨#[98, 97, 100, 32, 118, 101, 114, 115, 105, 111, 110]⟩, .string ⟨#[98, 97, 100, 32, 104, 111, 115, 116]⟩, .string ⟨#[98, 97, 100, 32, 108, 101, 110, 103, 116, 104]⟩, .string ⟨#[98, 111, 116, 104, 32, 108, 101, 110, 103, 116, 104, 115]⟩, .string ⟨#[98, 97, 100, 32, 99, 111, 100, 105, 110, 103]⟩, .string ⟨#[98, 97, 100, 32, 99, 104, 117, 110, 107]⟩, .string ⟨#[98, 97, 100, 32, 116, 114, 97, 105, 108, 101, 114]⟩] 9)
  rw [alloc_size', hG] at hW
  rw [hG] at hE
  have cE : ∀ k, k < 17 → _ := fun k h => (hE.cell k).trans (code_cell h)
  have cW : ∀ k, k < 17 → _ := fun k h => (hW.cell k).trans (word_cell h)
  replace cE := Lib.hid cE
  replace cW := Lib.hid cW
  replace hB := Lib.hid hB
  clear hE hW
  go_enter Tryd.func24, Tryd.ntmps24
  go_wp2
  generalize (w.alloc (.cells #[.int .i64 2, .int .i64 5, .int .i64 6, .int .i64 21, .int .i64 22, .int .i64 23, .int .i64 24, .int .i64 25, .int .i64 26, .int .i64 27, .int .i64 28, .int .i64 29, .int .i64 30, .int .i64 31, .int .i64 32, .int .i64 33, .int .i64 34] 50)).alloc (.cells #[.string ⟨#[98, 97, 100, 32, 115, 116, 97, 116, 117, 115]⟩, .string ⟨#[116, 111, 111, 32, 108, 97, 114, 103, 101]⟩, .string ⟨#[117, 110, 101, 120, 112, 101, 99, 116, 101, 100, 32, 114, 101, 115, 112, 111, 110, 115, 101]⟩, .string ⟨#[117, 110, 101, 120, 112, 101, 99, 116, 101, 100, 32, 101, 110, 100]⟩, .string ⟨#[98, 97, 100, 32, 108, 105, 110, 101, 32, 101, 110, 100]⟩, .string ⟨#[102, 111, 108, 100, 101, 100, 32, 108, 105, 110, 101]⟩, .string ⟨#[115, 112, 97, 99, 101, 32, 98, 101, 102, 111, 114, 101, 32, 99, 111, 108, 111, 110]⟩, .string ⟨#[98, 97, 100, 32, 102, 105, 101, 108, 100]⟩, .string ⟨#[98, 97, 100, 32, 109, 101, 116, 104, 111, 100]⟩, .string ⟨#[98, 97, 100, 32, 116, 97, 114, 103, 101, 116]⟩, .string ⟨#[98, 97, 100, 32, 118, 101, 114, 115, 105, 111, 110]⟩, .string ⟨#[98, 97, 100, 32, 104, 111, 115, 116]⟩, .string ⟨#[98, 97, 100, 32, 108, 101, 110, 103, 116, 104]⟩, .string ⟨#[98, 111, 116, 104, 32, 108, 101, 110, 103, 116, 104, 115]⟩, .string ⟨#[98, 97, 100, 32, 99, 111, 100, 105, 110, 103]⟩, .string ⟨#[98, 97, 100, 32, 99, 104, 117, 110, 107]⟩, .string ⟨#[98, 97, 100, 32, 116, 114, 97, 105, 108, 101, 114]⟩] 9) = w2 at *
  go_loop [5] (fun i => ∃ k : Nat, i = .int .i64 k ∧ k ≤ 17 ∧ Hid (∀ j, j < k → codes.getD j 0 ≠ c)) (fun i => 17 - (intOf i).toNat)
  case atStart => exact ⟨0, rfl, by omega, fun j h => absurd h (by omega)⟩
  case round =>
    obtain ⟨k, rfl, hk, hn⟩ := hrel
    by_cases hlt : k < 17
    · have d1 := cE.out k hlt
      have d2 := cW.out k hlt
      by_cases he : codes.getD k 0 = c
      · have hr := Lib.hid (show name c = words.getD k ⟨#[]⟩ by rw [← he]; exact name_at k hlt)
        have hb : (codes.getD k 0 == c) = true := by rw [he]; exact beq_self_eq_true c
        generalize codes.getD k 0 = e at *
        generalize words.getD k ⟨#[]⟩ = x at *
        go_wp2
        go_ret
        exact ⟨by rw [hr.out]; rfl, by first | exact hB.out | (rw [← hG]; exact hB.out)⟩
      · have hb : (codes.getD k 0 == c) = false := beq_false_of_ne he
        have hn' := Lib.hid (show ∀ j, j < k + 1 → codes.getD j 0 ≠ c from fun j h => by
          rcases Nat.lt_or_ge j k with h1 | h1
          · exact hn.out j h1
          · obtain rfl : j = k := by omega
            exact he)
        clear d2 he
        generalize codes.getD k 0 = e at *
        go_wp2
        go_round
        case rel => exact ⟨k + 1, by go_num, by omega, hn'⟩
        case measure => simp [intOf]; omega
    · obtain rfl : k = 17 := by omega
      have hr := Lib.hid (name_none hn.out)
      go_wp2
      go_ret
      exact ⟨by rw [hr.out]; rfl, by first | exact hB.out | (rw [← hG]; exact hB.out)⟩
end Go.Proofs.YtodgkppjabhhlaaDoor
