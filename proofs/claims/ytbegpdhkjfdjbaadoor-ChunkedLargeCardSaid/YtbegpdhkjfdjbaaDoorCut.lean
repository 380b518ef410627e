/-
  strings.Cut at one byte, and what the parts are.
-/
import Derived.Test.YtbegpdhkjfdjbaaDoorList
namespace Go.Proofs.YtbegpdhkjfdjbaaDoor
open Go.RowKit Syn

/-- What Cut answers at one byte. -/
def cutV (l : List UInt8) (c : UInt8) : Value := .tuple #[.string (str (l.takeWhile (· != c))), .string (str ((l.dropWhile (· != c)).drop 1)), .bool (!(l.dropWhile (· != c)).isEmpty)]
theorem index_split (c : UInt8) : ∀ l : List UInt8,
    (Lib.indexByte l c = -1 ∧ l.dropWhile (· != c) = [] ∧ l.takeWhile (· != c) = l) ∨
    (∃ k : Nat, Lib.indexByte l c = (k : Int) ∧ k < l.length ∧ l.takeWhile (· != c) = l.take k ∧ (l.dropWhile (· != c)).drop 1 = l.drop (k + 1) ∧ (l.dropWhile (· != c)).isEmpty = false)
  | [] => .inl ⟨rfl, rfl, rfl⟩
  | b :: l => by
    unfold Lib.indexByte
    rw [List.takeWhile_cons, List.dropWhile_cons]
    by_cases h : b = c
    · right
      subst h
      exact ⟨0, by simp, by simp, by simp, by simp, by simp⟩
    · have hb : (b == c) = false := by simp [h]
      have hn : (b != c) = true := by simp [h]
      rw [if_neg (by rw [hb]; decide), if_pos hn, if_pos hn]
      rcases index_split c l with ⟨h1, h2, h3⟩ | ⟨k, h1, h2, h3, h4, h5⟩
      · left; exact ⟨by rw [h1]; rfl, h2, by rw [h3]⟩
      · right
        refine ⟨k + 1, ?_, Nat.succ_lt_succ h2, by rw [h3, List.take_succ_cons], by rw [h4, List.drop_succ_cons], h5⟩
        rw [h1, if_neg (show ¬ ((k : Int) == -1) = true by simp)]; rfl
set_option maxRecDepth 100000 in
set_option maxHeartbeats 2000000 in
theorem litecut_any (s : ByteArray) (c : UInt8) (w : World) (hs : s.size ≤ maxLen) :
    Calls Tryd.prog 87 #[.string s, .string ⟨#[c]⟩] w fun e w' => e = .returned (cutV (bs s) c) ∧ ∃ n, w' = w.drewN n := by
  unfold maxLen at hs
  have hI : ∀ w, Calls Tryd.prog 97 #[.string s, .string ⟨#[c]⟩] w fun e w' => e = .returned (.int .i64 (Lib.indexByte (bs s) c)) ∧ w' = w := fun w => Any.stringslite_Index_one Tryd.lays219 s c w
  unfold cutV
  rcases index_split c (bs s) with ⟨h1, h2, h3⟩ | ⟨k, h1, h2, h3, h4, h5⟩
  · rw [h2, h3, str_bs]
    rw [h1] at hI
    replace hI := Lib.hid hI
    clear h1 h2 h3
    go_enter Tryd.func87, Tryd.ntmps87
    go_wp2_with (go_at_call 97; refine (hI.out _).mono ?_; rintro e w' ⟨rfl, rfl⟩)
    go_ret3
    exact ⟨rfl, 0, rfl⟩
  · rw [h3, h4, h5]
    rw [h1] at hI
    replace hI := Lib.hid hI
    rw [bs_length] at h2
    have e1 : s.extract 0 k = str ((bs s).take k) := by rw [extract_str]; rfl
    have e2 : s.extract (k + 1) s.size = str ((bs s).drop (k + 1)) := by rw [extract_str, take_all]
    clear h1 h3 h4 h5
    rw [← e1, ← e2]
    replace e1 := Lib.hid e1
    replace e2 := Lib.hid e2
    go_enter Tryd.func87, Tryd.ntmps87
    go_wp2_with (go_at_call 97; refine (hI.out _).mono ?_; rintro e w' ⟨rfl, rfl⟩)
    go_quiet (fail)
    go_wp2
    go_ret3
    exact ⟨rfl, nq, rfl⟩
theorem cut_any (s : ByteArray) (c : UInt8) (w : World) (hs : s.size ≤ maxLen) :
    Calls Tryd.prog 77 #[.string s, .string ⟨#[c]⟩] w fun e w' => e = .returned (cutV (bs s) c) ∧ ∃ n, w' = w.drewN n := by
  have hI := fun w => litecut_any s c w hs
  unfold cutV at *
  generalize str ((bs s).takeWhile (· != c)) = a at *
  generalize str (((bs s).dropWhile (· != c)).drop 1) = b at *
  generalize (!((bs s).dropWhile (· != c)).isEmpty) = d at *
  replace hI := Lib.hid hI
  go_enter Tryd.func77, Tryd.ntmps77
  go_wp2_with fail
  refine (hI.out _).mono ?_
  rintro e w' ⟨rfl, n, rfl⟩
  go_wp2
  go_ret3
  exact ⟨rfl, n, rfl⟩

theorem dropWhile_le (p : UInt8 → Bool) (l : List UInt8) : (l.dropWhile p).length ≤ l.length := (List.dropWhile_sublist p).length_le
theorem takeWhile_le (p : UInt8 → Bool) (l : List UInt8) : (l.takeWhile p).length ≤ l.length := (List.takeWhile_sublist p).length_le
theorem trim_le (l : List UInt8) : (trim l).length ≤ l.length := by
  unfold trim trimL
  rw [List.length_reverse]
  refine Nat.le_trans (dropWhile_le _ _) ?_
  rw [List.length_reverse]
  exact dropWhile_le _ _
theorem partsGo_most (b : UInt8) : ∀ (n : Nat) (r : List UInt8) (q : Bool) (c : List UInt8) (out l : List (List UInt8)) (m : Nat), r.length ≤ n → c.length + r.length ≤ m → (∀ x ∈ out, x.length ≤ m) → partsGo b q c out r = some l → out.length < l.length ∧ ∀ x ∈ l, x.length ≤ m
  | n, [], q, c, out, l, m, _, hm, ho, h => by
    rw [partsGo] at h
    cases q
    · simp at h; rw [← h]
      refine ⟨by simp, fun x hx => ?_⟩
      rw [List.mem_append, List.mem_singleton] at hx
      rcases hx with hx | rfl
      · exact ho x hx
      · have := trim_le c; simp at hm; omega
    · simp at h
  | 0, _ :: _, _, _, _, _, _, hn, _, _, _ => by simp at hn
  | n + 1, a :: r, q, c, out, l, m, hn, hm, ho, h => by
    rw [partsGo_cons] at h
    simp only [List.length_cons] at hn hm
    split at h
    · cases r with
      | nil => cases h
      | cons d r' =>
        simp only [List.length_cons] at hn hm
        exact partsGo_most b n r' _ _ _ _ m (by omega) (by simp; omega) ho h
    · split at h
      · exact partsGo_most b n r _ _ _ _ m (by omega) (by simp; omega) ho h
      · split at h
        · have := partsGo_most b n r _ _ _ _ m (by omega) (by simp; omega) (fun x hx => by
            rw [List.mem_append, List.mem_singleton] at hx
            rcases hx with hx | rfl
            · exact ho x hx
            · have := trim_le c; omega) h
          simp at this
          exact ⟨by omega, this.2⟩
        · exact partsGo_most b n r _ _ _ _ m (by omega) (by simp; omega) ho h
/-- There is a part, and none is longer than the text. -/
theorem parts_most {b : UInt8} {x : List UInt8} {l : List (List UInt8)} (h : parts b x = some l) : 0 < l.length ∧ ∀ y ∈ l, y.length ≤ x.length := by
  unfold parts at h
  split at h
  · exact partsGo_most b _ _ _ _ _ _ x.length (Nat.le_refl _) (by simp) (by simp) h
  · cases h
end Go.Proofs.YtbegpdhkjfdjbaaDoor
