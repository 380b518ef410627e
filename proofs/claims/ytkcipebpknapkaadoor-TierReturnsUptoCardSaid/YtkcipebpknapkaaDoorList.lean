/-
  Layer 1: List, the code's and the document's.
-/
import Derived.Test.YtkcipebpknapkaaDoorRParts
namespace Go.Proofs.YtkcipebpknapkaaDoor
open Go.RowKit Syn

theorem own_mono {w : World} {B B' sz n : Nat} {e : TypeId} {v : Value} {xs : List Value} (h : Own w B e sz v n xs) (hB : B' ≤ B) : Own w B' e sz v n xs := by
  obtain ⟨hl, h⟩ := h
  refine ⟨hl, ?_⟩
  rcases h with h | ⟨g, cap, cur, e1, h1, h2⟩
  · exact .inl h
  · exact .inr ⟨g, cap, cur, e1, Nat.le_trans hB h1, h2⟩
def full (l : List (List UInt8)) : List (List UInt8) := l.filter fun y => !y.isEmpty
theorem full_yes {l : List (List UInt8)} {k : Nat} (h : k < l.length) (hx : l[k].isEmpty = false) : full (l.take (k + 1)) = full (l.take k) ++ [l[k]] := by
  unfold full
  rw [List.take_succ_eq_append_getElem h, List.filter_append]; simp [hx]
theorem full_no {l : List (List UInt8)} {k : Nat} (h : k < l.length) (hx : l[k].isEmpty = true) : full (l.take (k + 1)) = full (l.take k) := by
  unfold full
  rw [List.take_succ_eq_append_getElem h, List.filter_append]; simp [hx]
theorem full_le (l : List (List UInt8)) (k : Nat) : (full (l.take k)).length ≤ k := by
  have h1 := List.length_filter_le (fun y : List UInt8 => !y.isEmpty) (l.take k)
  have h2 := List.length_take_le k l
  exact Nat.le_trans h1 h2
theorem str_isEmpty (x : List UInt8) : (str x).toList.isEmpty = x.isEmpty := by rw [str_toList]
theorem partsGo_len (b : UInt8) : ∀ (n : Nat) (r : List UInt8) (q : Bool) (c : List UInt8) (out l : List (List UInt8)), r.length ≤ n → partsGo b q c out r = some l → l.length ≤ out.length + r.length + 1
  | n, [], q, c, out, l, _, h => by
    rw [partsGo] at h
    cases q
    · simp at h; rw [← h]; simp
    · simp at h
  | 0, _ :: _, _, _, _, _, hn, _ => by simp at hn
  | n + 1, a :: r, q, c, out, l, hn, h => by
    rw [partsGo_cons] at h
    simp only [List.length_cons] at hn ⊢
    split at h
    · cases r with
      | nil => cases h
      | cons d r' =>
        simp only [List.length_cons] at hn ⊢
        have := partsGo_len b n r' _ _ _ _ (by omega) h
        omega
    · split at h
      · have := partsGo_len b n r _ _ _ _ (by omega) h
        omega
      · split at h
        · have := partsGo_len b n r _ _ _ _ (by omega) h
          simp at this; omega
        · have := partsGo_len b n r _ _ _ _ (by omega) h
          omega
theorem parts_len {b : UInt8} {s : ByteArray} {l : List (List UInt8)} (h : parts b (bs s) = some l) : l.length ≤ s.size + 1 := by
  unfold parts at h
  split at h
  · have := partsGo_len b _ _ _ _ _ _ (Nat.le_refl _) h
    rw [bs_length] at this; simpa using this
  · cases h
set_option maxRecDepth 100000 in
set_option maxHeartbeats 4000000 in
theorem list_any (s : ByteArray) (w : World) (hs : s.size ≤ 1000000000) :
    Calls Tryd.prog 19 #[.string s] w fun e w' => ∃ v, e = .returned (.tuple #[v, errV (errO (Syn.list (bs s)))]) ∧ PartsOut w' w.heap.size v (Syn.list (bs s)) ∧ Below w.heap.size w w' := by
  have hpa : ∀ w, Calls Tryd.prog 29 #[.string s, .int .u8 44] w fun e w' => ∃ v, e = .returned (.tuple #[v, errV (errO (parts 44 (bs s)))]) ∧ PartsOut w' w.heap.size v (parts 44 (bs s)) ∧ Below w.heap.size w w' := fun w => parts_any s 44 w hs
  cases hp : parts 44 (bs s) with
  | none =>
    have hl : Hid (Syn.list (bs s) = none) := Lib.hid (by unfold Syn.list; rw [hp]; rfl)
    rw [hp] at hpa
    go_enter Tryd.func19, Tryd.ntmps19
    go_wp2_with fail
    refine (hpa _).mono ?_
    rintro e w1 ⟨v, rfl, hv, hb⟩
    rw [show errV (errO (none : Option (List (List UInt8)))) = .iface 50 (.int .i64 2) from rfl]
    go_wp2
    go_ret2
    exact ⟨_, by rw [hl.out]; rfl, by rw [hl.out]; rfl, hb⟩
  | some l =>
    have hl : Hid (Syn.list (bs s) = some (full l)) := Lib.hid (by unfold Syn.list; rw [hp]; rfl)
    have hln : l.length ≤ 1000000001 := by have := parts_len hp; omega
    rw [hp] at hpa
    go_enter Tryd.func19, Tryd.ntmps19
    go_wp2_with fail
    refine (hpa _).mono ?_
    rintro e w1 ⟨v, rfl, hv, hb⟩
    rw [show errV (errO (some l)) = .nilIface from rfl]
    clear hpa hp
    have hR : Rd w1 1 v l.length (strs l) := Rd.own hv
    obtain ⟨A, cap, rfl, hcap, -, -⟩ := id hR
    have hb' := Lib.hid hb
    clear hv hb
    go_wp2
    go_loopw [6, 8, 19] (fun o _ i wr => ∃ k : Nat, i = .int .i64 k ∧ k ≤ l.length ∧ Hid (Own wr w1.heap.size 9 1 o (full (l.take k)).length (strs (full (l.take k)))) ∧ Hid (Below w1.heap.size w1 wr)) (fun _ _ i _ => l.length - (intOf i).toNat)
    case atStart => exact ⟨0, rfl, by omega, own_nil _ _ _ _, Below.refl _ _⟩
    case round =>
      obtain ⟨k, rfl, hk, ho, hB⟩ := hrel
      have hBw := hB.out.size
      have hfl := full_le l k
      by_cases hlt : k < l.length
      · have hR' := hR.below hB.out
        obtain ⟨A', cap', e', -, -, r'⟩ := hR'
        cases e'
        obtain ⟨b1, o1, rfl, _, x1⟩ := r' (by omega)
        have d1 : wr.cell? ⟨b1, o1 + k, none⟩ = some (.string (str l[k])) := x1 k _ (strs_at hlt)
        cases hx : l[k].isEmpty
        · have hxe : (str l[k]).toList.isEmpty = false := by rw [str_isEmpty]; exact hx
          have hf := Lib.hid (full_yes hlt hx)
          clear hx x1 r'
          go_wp2_with (at_builtin; refine push_str _ _ rfl rfl rfl ho.out rfl rfl (by omega) hBw ?_; intro v2 w2 ho2 hb2; replace ho2 := Lib.hid ho2; have hB2 := Lib.hid (hB.out.trans hb2); clear hb2)
          go_roundw
          case rel =>
            refine ⟨k + 1, by go_num, by omega, Lib.hid ?_, hB2⟩
            rw [hf.out, strs_snoc]; simpa using ho2.out
          case measure => simp [intOf]; omega
        · have hxe : (str l[k]).toList.isEmpty = true := by rw [str_isEmpty]; exact hx
          have hf := Lib.hid (full_no hlt hx)
          clear hx x1 r'
          go_wp2
          go_roundw
          case rel => exact ⟨k + 1, by go_num, by omega, by rw [hf.out]; exact ho, hB⟩
          case measure => simp [intOf]; omega
      · obtain rfl : k = l.length := by omega
        rw [List.take_length] at ho
        go_wp2
        go_ret2
        refine ⟨_, by rw [hl.out]; rfl, ?_, Below.next hb'.out hb'.out.size hB.out⟩
        rw [hl.out]
        exact own_mono ho.out hb'.out.size
end Go.Proofs.YtkcipebpknapkaaDoor
