/-
  A request with both a length and a coding. Plain Lean.
-/
import Derived.Test.YtodgkppjabhhlaaDoorFAgrees
import Derived.Test.YtodgkppjabhhlaaDoorFRep
namespace Go.Proofs.YtodgkppjabhhlaaDoor
open Go.RowKit Syn Fr

def TE : Bytes := [84, 114, 97, 110, 115, 102, 101, 114, 45, 69, 110, 99, 111, 100, 105, 110, 103]
theorem allV_append (a b : List (Bytes × Bytes)) (name : Bytes) : allV (a ++ b) name = allV a name ++ allV b name := by unfold allV; rw [List.filter_append, List.map_append]
theorem allV_split (L : List (Bytes × Bytes)) (k : Nat) (e : Bytes × Bytes) (name : Bytes) : allV (L.take k ++ [e] ++ L.drop k) name = allV (L.take k) name ++ allV [e] name ++ allV (L.drop k) name := by rw [allV_append, allV_append]
theorem allV_whole (L : List (Bytes × Bytes)) (k : Nat) (name : Bytes) : allV (L.take k) name ++ allV (L.drop k) name = allV L name := by rw [← allV_append, List.take_append_drop]
theorem allV_one (n v name : Bytes) : allV [(n, v)] name = if Syn.lower n = Syn.lower name then [v] else [] := by
  unfold allV
  by_cases h : Syn.lower n = Syn.lower name
  · rw [if_pos h, List.filter_cons_of_pos (by simpa using h)]; rfl
  · rw [if_neg h, List.filter_cons_of_neg (by simpa using h)]; rfl
theorem sp_none {s : Bytes} (h : (44 : UInt8) ∉ s) : sp 44 s = [s] := by
  apply sp_miss
  induction s with
  | nil => rfl
  | cons a s ih =>
    rw [List.dropWhile_cons, if_pos]
    · exact ih fun hm => h (by simp [hm])
    · rw [bne_iff_ne]; exact fun e => h (by simp [e])
theorem frame_both2 {L : List (Bytes × Bytes)} (h1 : allV L cl ≠ []) (h2 : allV L te ≠ []) : frame 1 L = ((0, 0), 31) := frame_both (List.length_pos_iff.2 h1) (List.length_pos_iff.2 h2)
theorem amb_both {L : List (Bytes × Bytes)} {n : Nat} (h1 : lenN (allV L cl) = some n) (h2 : chk (allV L te) = true) : amb L = true := by unfold amb; rw [h1, h2]; rfl
/-- The two digits of the law. -/
def two (n : Nat) : Bytes := [digc (n / 10), digc n]
theorem two_number (n : Nat) : ∃ m, number (two n) = (m, 0) := by
  refine ⟨valGo 0 (two n), ?_⟩
  unfold number
  have hd : digits (two n) = true := by unfold digits two; simp [dig_digc]
  rw [hd, if_pos rfl, if_neg (by show ¬ 15 < 2; decide)]
theorem two_len (n : Nat) : ∃ m, lenN [two n] = some m := by
  obtain ⟨m, hm⟩ := two_number n
  have hall : ∀ a ∈ two n, dig a = true := fun a ha => by
    unfold two at ha
    simp at ha
    rcases ha with rfl | rfl <;> exact dig_digc _
  have hsp : sp 44 (two n) = [two n] := sp_none fun hm => (dig_not (hall _ hm)).2.1 rfl
  have htr : trim (two n) = two n := by
    have hf : Firm (two n) := ⟨⟨digc (n / 10), [digc n], rfl, (dig_not (dig_digc _)).2.2.1⟩, ⟨digc n, [digc (n / 10)], rfl, (dig_not (dig_digc _)).2.2.1⟩⟩
    have := trim_pre (p := []) rfl hf
    exact this
  refine ⟨m, ?_⟩
  unfold lenN
  show (sp 44 (two n)).foldl stepN none = _
  rw [hsp]
  show pick none (trim (two n)) = _
  rw [htr]
  unfold pick
  rw [hm]; rfl
theorem te_len : chk [ch] = true := by decide +kernel
/-- A chunked request to which a length is added. -/
theorem smuggle_len {L : List (Bytes × Bytes)} (h1 : allV L cl = []) (h2 : allV L te ≠ []) (h3 : chk (allV L te) = true) (k n : Nat) :
    frame 1 (L.take k ++ [(CL, two n)] ++ L.drop k) = ((0, 0), 31) ∧ amb (L.take k ++ [(CL, two n)] ++ L.drop k) = true := by
  have hw := allV_whole L k cl
  rw [h1] at hw
  obtain ⟨ha, hb⟩ := List.append_eq_nil_iff.1 hw
  have e1 : allV (L.take k ++ [(CL, two n)] ++ L.drop k) cl = [two n] := by
    rw [allV_split, ha, hb, show allV [(CL, two n)] cl = [two n] by rw [allV_one, if_pos (by decide +kernel)]]; rfl
  have e2 : allV (L.take k ++ [(CL, two n)] ++ L.drop k) te = allV L te := by
    rw [allV_split, show allV [(CL, two n)] te = [] by rw [allV_one, if_neg (by decide +kernel)], List.append_nil, allV_whole]
  obtain ⟨m, hm⟩ := two_len n
  exact ⟨frame_both2 (by rw [e1]; simp) (by rw [e2]; exact h2), amb_both (by rw [e1]; exact hm) (by rw [e2]; exact h3)⟩
/-- A request with a length to which a coding is added. -/
theorem smuggle_te {L : List (Bytes × Bytes)} {n : Nat} (h1 : allV L te = []) (h2 : allV L cl ≠ []) (h3 : lenN (allV L cl) = some n) (k : Nat) :
    frame 1 (L.take k ++ [(TE, ch)] ++ L.drop k) = ((0, 0), 31) ∧ amb (L.take k ++ [(TE, ch)] ++ L.drop k) = true := by
  have hw := allV_whole L k te
  rw [h1] at hw
  obtain ⟨ha, hb⟩ := List.append_eq_nil_iff.1 hw
  have e1 : allV (L.take k ++ [(TE, ch)] ++ L.drop k) te = [ch] := by
    rw [allV_split, ha, hb, show allV [(TE, ch)] te = [ch] by rw [allV_one, if_pos (by decide +kernel)]]; rfl
  have e2 : allV (L.take k ++ [(TE, ch)] ++ L.drop k) cl = allV L cl := by
    rw [allV_split, show allV [(TE, ch)] cl = [] by rw [allV_one, if_neg (by decide +kernel)], List.append_nil, allV_whole]
  exact ⟨frame_both2 (by rw [e2]; exact h2) (by rw [e1]; simp), amb_both (by rw [e2]; exact h3) (by rw [e1]; exact te_len)⟩
theorem few_split {L : List (Bytes × Bytes)} (hF : Few L) (h80 : L.length ≤ 80) (k : Nat) {e : Bytes × Bytes} (h1 : e.1.length ≤ 100) (h2 : e.2.length ≤ 100) : Few (L.take k ++ [e] ++ L.drop k) := by
  refine ⟨?_, fun p hp => ?_⟩
  · simp only [List.length_append, List.length_take, List.length_drop, List.length_cons, List.length_nil]
    omega
  · rw [List.mem_append, List.mem_append, List.mem_singleton] at hp
    rcases hp with (hp | rfl) | hp
    · exact hF.short p (List.mem_of_mem_take hp)
    · omega
    · exact hF.short p (List.mem_of_mem_drop hp)
/-- The way of the law: which field is added, and what comes of it. -/
theorem smuggle (L : List (Bytes × Bytes)) (n : Nat) :
    (∃ c : Int, errV (frame 1 L).2 = .iface 50 (.int .i64 c)) ∨ (errV (frame 1 L).2 = .nilIface ∧ (frame 1 L).1.1 = 1) ∨
    (errV (frame 1 L).2 = .nilIface ∧ (frame 1 L).1.1 = 3 ∧ 0 < L.length ∧ ∀ k, frame 1 (L.take k ++ [(CL, two n)] ++ L.drop k) = ((0, 0), 31) ∧ amb (L.take k ++ [(CL, two n)] ++ L.drop k) = true) ∨
    (errV (frame 1 L).2 = .nilIface ∧ (frame 1 L).1.1 = 2 ∧ 0 < L.length ∧ ∀ k, frame 1 (L.take k ++ [(TE, ch)] ++ L.drop k) = ((0, 0), 31) ∧ amb (L.take k ++ [(TE, ch)] ++ L.drop k) = true) := by
  have hpos : ∀ {name : Bytes}, allV L name ≠ [] → 0 < L.length := fun h => Nat.lt_of_lt_of_le (List.length_pos_iff.2 h) (allV_length L _)
  rcases accepted L with ⟨h, h0⟩ | ⟨h, -, -⟩ | ⟨h, h1, h2, h3⟩ | ⟨m, hn, h, h1, h2, h3⟩
  · exact .inl ⟨_, by unfold errV; rw [if_neg h]⟩
  · rw [h]; exact .inr (.inl ⟨rfl, rfl⟩)
  · rw [h]; exact .inr (.inr (.inl ⟨rfl, rfl, hpos h2, fun k => smuggle_len h1 h2 h3 k n⟩))
  · rw [h]; exact .inr (.inr (.inr ⟨rfl, rfl, hpos h2, fun k => smuggle_te h1 h2 h3 k⟩))
end Go.Proofs.YtodgkppjabhhlaaDoor
