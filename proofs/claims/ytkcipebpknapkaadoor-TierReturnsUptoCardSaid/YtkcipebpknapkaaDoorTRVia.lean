/-
  Layer 33: the document's Via and ReadVia.
-/
import Derived.Test.YtkcipebpknapkaaDoorTAny
import Derived.Test.YtkcipebpknapkaaDoorRList
import Derived.Test.YtkcipebpknapkaaDoorCut
namespace Go.Proofs.YtkcipebpknapkaaDoor
open Go.RowKit Ti

namespace Ti
theorem join_snoc (a : List Bytes) (y sep : Bytes) (h : a ≠ []) : Lib.join (a ++ [y]) sep = Lib.join a sep ++ sep ++ y := by
  cases a with
  | nil => exact absurd rfl h
  | cons x r =>
    rw [List.cons_append, Lib.join_cons, Lib.join_cons]
    unfold Lib.joinTail
    simp
theorem via_snoc (a : List Bytes) (x : Bytes) : via (a ++ [x]) = via a ++ (if a = [] then [] else [44, 32]) ++ (pre ++ x) := by
  unfold via
  by_cases h : a = []
  · subst h; simp [Lib.join_one, Lib.join_nil]
  · rw [if_neg h, List.map_append, List.map_cons, List.map_nil, join_snoc _ _ _ (by simpa using h)]
theorem via_le (m : Nat) : ∀ a : List Bytes, (∀ x ∈ a, x.length ≤ m) → (via a).length ≤ (m + 7) * a.length := by
  intro a
  suffices h : ∀ (n : Nat) (a : List Bytes), a.length = n → (∀ x ∈ a, x.length ≤ m) → (via a).length ≤ (m + 7) * a.length from h a.length a rfl
  intro n
  induction n with
  | zero => intro a h _; rw [List.eq_nil_of_length_eq_zero h]; exact Nat.zero_le _
  | succ n ih =>
    intro a h hs
    obtain ⟨b, x, rfl⟩ : ∃ b x, a = b ++ [x] := ⟨a.dropLast, a.getLast (by intro e; rw [e] at h; cases h), (List.dropLast_concat_getLast _).symm⟩
    have h1 := ih b (by simpa using h) fun y hy => hs y (by simp [hy])
    have h2 := hs x (by simp)
    rw [via_snoc, List.length_append, List.length_append, List.length_append, List.length_append, List.length_singleton, Nat.mul_add]
    have h3 : (if b = [] then ([] : Bytes) else [44, 32]).length ≤ 2 := by split <;> simp
    have h4 : pre.length = 5 := rfl
    omega
theorem via_take {l : List Bytes} {k : Nat} (h : k < l.length) : via (l.take (k + 1)) = via (l.take k) ++ (if k = 0 then [] else [44, 32]) ++ (pre ++ l[k]) := by
  rw [List.take_succ_eq_append_getElem h, via_snoc]
  congr 2
  have : l.take k = [] ↔ k = 0 := by rw [List.take_eq_nil_iff]; constructor
                                     · rintro (h1 | h1)
                                       · exact h1
                                       · rw [h1] at h; cases h
                                     · exact .inl
  simp only [this]
theorem list_most {x : Bytes} {l : List Bytes} (h : Syn.list x = some l) : ∀ y ∈ l, y.length ≤ x.length := by
  unfold Syn.list at h
  cases hp : Syn.parts 44 x with
  | none => rw [hp] at h; cases h
  | some p =>
    rw [hp] at h
    have e : full p = l := by injection h
    intro y hy
    rw [← e] at hy
    exact (parts_most hp).2 y (List.mem_filter.1 hy).1
theorem trim_le5 (x : Bytes) : (Lib.trimPrefix x pre).length ≤ x.length := by
  unfold Lib.trimPrefix
  split
  · rw [List.length_drop]; omega
  · exact Nat.le_refl _
theorem nameOf_short {x : Bytes} (h : x.length < 6) : nameOf x = none := by
  unfold nameOf
  rw [if_neg]
  rintro ⟨h1, h2, -⟩
  refine h2 ?_
  unfold Lib.trimPrefix
  rw [if_pos h1]
  exact List.drop_of_length_le (show x.length ≤ 5 by omega)
theorem pre_iff (x : Bytes) : Lib.hasPrefix x pre = true ↔ x.take 5 = pre := by
  unfold Lib.hasPrefix
  rw [List.isPrefixOf_iff_prefix, List.prefix_iff_eq_take]
  exact eq_comm
theorem nameOf_other {x : Bytes} (h : x.take 5 ≠ pre) : nameOf x = none := by
  unfold nameOf
  rw [if_neg]
  rintro ⟨h1, -, -⟩
  exact h ((pre_iff x).1 h1)
theorem nameOf_yes {x : Bytes} (h : x.take 5 = pre) (h6 : 6 ≤ x.length) : nameOf x = if (x.drop 5).any Syn.blank = false then some (x.drop 5) else none := by
  have h1 := (pre_iff x).2 h
  have h2 : Lib.trimPrefix x pre = x.drop 5 := by unfold Lib.trimPrefix; rw [if_pos h1]; rfl
  have h3 : x.drop 5 ≠ [] := fun e => by have := congrArg List.length e; rw [List.length_drop, List.length_nil] at this; omega
  unfold nameOf
  rw [h2]
  by_cases hb : (x.drop 5).any Syn.blank = false
  · rw [if_pos ⟨h1, h3, hb⟩, if_pos hb]
  · rw [if_neg fun h => hb h.2.2, if_neg hb]
end Ti

theorem readvia_any (s : ByteArray) (w : World) (hsz : s.size ≤ 1000000) :
    Calls Tryd.prog 9 #[.string s] w fun e w' => ∃ v, e = .returned (.tuple #[v, errV (errO (Syn.list (bs s)))]) ∧ PartsOut w' w.heap.size v ((Syn.list (bs s)).map readV) ∧ Below w.heap.size w w' :=
  readvia_of s w hsz fun L hL x hx _ _ w => containsany_any _ w (by have h1 := list_most hL x hx; have h2 := trim_le5 x; rw [bs_length] at h1; omega)

set_option maxRecDepth 100000 in
set_option maxHeartbeats 4000000 in
theorem rvia_any (l : List Bytes) (A : Option Addr) (cap : Nat) (w : World) (hR : Rd w 1 (.slice A l.length cap) l.length (strs l)) (hm : l.length ≤ 1000000) (hs : ∀ x ∈ l, x.length ≤ 1000000) :
    Calls Tryd.prog 12 #[.slice A l.length cap] w fun e w' => e = .returned (.string (str (via l))) ∧ w' = w := by
  obtain ⟨A', c', e', hc, -, hr⟩ := hR
  cases e'
  have hz := Lib.hid (fun k => via_le 1000000 (l.take k) fun x hx => hs x (List.mem_of_mem_take hx))
  replace hs := Lib.hid hs
  go_enter Tryd.func12, Tryd.ntmps12
  go_wp2
  go_loop [3, 8] (fun o i => ∃ k : Nat, i = .int .i64 (k : Int) ∧ k ≤ l.length ∧ o = .string (str (via (l.take k)))) (fun _ i => l.length - (intOf i).toNat)
  case atStart => exact ⟨0, rfl, by omega, rfl⟩
  case round =>
    obtain ⟨k, rfl, hk, rfl⟩ := hrel
    by_cases hlt : k < l.length
    · obtain ⟨b1, o1, rfl, _, x1⟩ := hr (by omega)
      have d1 : w.cell? ⟨b1, o1 + k, none⟩ = some (.string (str l[k])) := x1 k _ (strs_at hlt)
      have hst := via_take hlt
      have hsl := hs.out l[k] (List.getElem_mem hlt)
      have hzk := hz.out k
      rw [List.length_take] at hzk
      have hzk2 : (via (l.take k)).length ≤ 1000007 * 1000000 := Nat.le_trans hzk (by rw [Nat.min_eq_left hk]; exact Nat.mul_le_mul_left _ (by omega))
      have q1 := str_size (via (l.take k))
      have q2 := str_size l[k]
      have q3 : (⟨#[113, 117, 97, 121, 32]⟩ : ByteArray).size = 5 := rfl
      have q4 : (⟨#[44, 32]⟩ : ByteArray).size = 2 := rfl
      rw [← q1] at hzk2
      rw [← q2] at hsl
      clear x1 hzk q1 q2
      by_cases hk0 : k = 0
      · have hcd : ¬ (0 < k) := by omega
        have hst2 := Lib.hid (show str (via (l.take (k + 1))) = str (via (l.take k)) ++ (⟨#[113, 117, 97, 121, 32]⟩ ++ str l[k]) by rw [hst, if_pos hk0, List.append_nil, ← str_append, ← str_append]; rfl)
        clear hst
        replace hk0 := Lib.hid hk0
        generalize str (via (l.take k)) = T at *
        generalize str l[k] = x at *
        go_wp2
        go_round
        case rel => exact ⟨k + 1, by go_num, by omega, by rw [hst2.out]; try simp only [ByteArray.append_assoc]⟩
        case measure => simp [intOf]; omega
      · have hcd : 0 < k := by omega
        have hst2 := Lib.hid (show str (via (l.take (k + 1))) = (str (via (l.take k)) ++ ⟨#[44, 32]⟩) ++ (⟨#[113, 117, 97, 121, 32]⟩ ++ str l[k]) by rw [hst, if_neg hk0, ← str_append, ← str_append, ← str_append]; rfl)
        clear hst
        replace hk0 := Lib.hid hk0
        generalize str (via (l.take k)) = T at *
        generalize str l[k] = x at *
        go_wp2
        go_round
        case rel => exact ⟨k + 1, by go_num, by omega, by rw [hst2.out]; try simp only [ByteArray.append_assoc]⟩
        case measure => simp [intOf]; omega
    · obtain rfl : k = l.length := by omega
      rw [List.take_length]
      go_wp2
      go_ret
      exact ⟨rfl, rfl⟩
end Go.Proofs.YtkcipebpknapkaaDoor
