/-
  Layer 8: what a connection answers does not hang on where its bytes are cut. Plain.
-/
import Derived.Test.YtjffffpfejmoiaaGreatDoorNApp
namespace Go.Proofs.YtjffffpfejmoiaaGreatDoor
open Go.RowKit Syn Hd Fr Ck
namespace Cn
/-- What R leaves as it was. -/
theorem R_keep : ∀ (k : Nat) (c : C), ms c ≤ k → (R c).1.closed = c.closed ∧ (R c).1.resp = c.resp ∧ (R c).1.buf.length ≤ c.buf.length := by
  intro k
  induction k using Nat.strongRecOn with
  | ind k ih =>
    intro c hk
    by_cases h0 : c.err = 0
    · by_cases hb : c.body = true
      · have hp := pBuf_le c
        by_cases n1 : (pC c).body = true
        · rw [R_body h0 hb n1]
          exact ⟨rfl, rfl, hp⟩
        · rw [R_done h0 hb n1]
          have hm := ms_pC hb n1
          obtain ⟨a, b, d⟩ := ih (ms (pC c)) (by omega) (pC c) (Nat.le_refl _)
          exact ⟨a, b, Nat.le_trans d hp⟩
      · by_cases hn : c.buf = []
        · rw [R_nil h0 hb hn]; exact ⟨rfl, rfl, Nat.le_refl _⟩
        · by_cases hw : wait c
          · rw [R_wait h0 hb hn hw]; exact ⟨rfl, rfl, Nat.le_refl _⟩
          · by_cases hs : sE c = 0
            · have hm := ms_sC hs
              rw [R_head h0 hb hn hw hs]
              obtain ⟨a, b, d⟩ := ih (ms (sC c)) (by omega) (sC c) (Nat.le_refl _)
              exact ⟨a, b, by have := hm.2; show (R (sC c)).1.buf.length ≤ _; omega⟩
            · rw [R_bad h0 hb hn hw hs]; exact ⟨rfl, rfl, Nat.le_refl _⟩
    · rw [R_err h0]; exact ⟨rfl, rfl, Nat.le_refl _⟩
/-- Parts, one after the other. -/
def feed : C → List (List UInt8) → C × List Ev
  | c, [] => (c, [])
  | c, b :: l => ((feed (write c b).1 l).1, (write c b).2 ++ (feed (write c b).1 l).2)
theorem feed_app : ∀ (l m : List (List UInt8)) (c : C), feed c (l ++ m) = ((feed (feed c l).1 m).1, (feed c l).2 ++ (feed (feed c l).1 m).2)
  | [], m, c => rfl
  | b :: l, m, c => by
    show ((feed (write c b).1 (l ++ m)).1, (write c b).2 ++ (feed (write c b).1 (l ++ m)).2) = _
    rw [feed_app l m (write c b).1]
    show _ = ((feed (feed (write c b).1 l).1 m).1, ((write c b).2 ++ (feed (write c b).1 l).2) ++ (feed (feed (write c b).1 l).1 m).2)
    rw [List.append_assoc]
theorem feed_one (c : C) (b : List UInt8) : feed c [b] = write c b := by
  show ((write c b).1, (write c b).2 ++ []) = _
  rw [List.append_nil]
theorem feed_snoc (l : List (List UInt8)) (b : List UInt8) (c : C) : feed c (l ++ [b]) = ((write (feed c l).1 b).1, (feed c l).2 ++ (write (feed c l).1 b).2) := by
  rw [feed_app, feed_one]
theorem app_nil (c : C) : app c [] = c := by unfold app; rw [List.append_nil]
theorem app_app (c : C) (a b : List UInt8) : app (app c a) b = app c (a ++ b) := by unfold app; rw [List.append_assoc]
theorem write_open {c : C} {b : List UInt8} (h0 : c.err = 0) (hc : c.closed = false) (hb : b ≠ []) : write c b = R (app c b) := by
  have hx : wrE c b = 0 := by
    unfold wrE
    rw [if_neg (fun h => by rw [hc] at h; cases h.2.1)]
    exact h0
  unfold write
  rw [hx, if_neg (by rintro (h | h); exact h rfl; exact hb h)]
theorem write_none {c : C} : write c [] = ({ c with err := c.err }, []) := by
  have hx : wrE c [] = c.err := by
    unfold wrE
    rw [if_neg (fun h => h.2.2 rfl)]
  unfold write
  rw [hx, if_pos (.inr rfl)]
theorem write_bad {c : C} {b : List UInt8} (h0 : c.err ≠ 0) : write c b = (c, []) := by
  have hx : wrE c b = c.err := by
    unfold wrE
    rw [if_neg (fun h => h0 h.1)]
  unfold write
  rw [hx, if_pos (.inl h0)]
/-- The parts that came, and all of them at once. -/
structure Fed (c0 : C) (x : List UInt8) (c : C) (l : List Ev) : Prop where
  err : (R (app c0 x)).1.err = c.err
  st : c.err = 0 → (R (app c0 x)).1 = c
  ev : J (R (app c0 x)).2 l
  closed : c.closed = false
  buf : c.buf.length ≤ c0.buf.length + x.length
theorem Fed.nil {c0 : C} (h : R c0 = (c0, [])) (hc : c0.closed = false) : Fed c0 [] c0 [] := by
  refine ⟨?_, fun _ => ?_, ?_, hc, Nat.le_add_right _ _⟩ <;> rw [app_nil, h]
  exact J.refl _
theorem Fed.step {c0 c : C} {x : List UInt8} {l : List Ev} (h : Fed c0 x c l) (h0 : c0.err = 0) (b : List UInt8) : Fed c0 (x ++ b) (write c b).1 (l ++ (write c b).2) := by
  have h0' : (app c0 x).err = 0 := h0
  have hR := R_app (ms (app c0 x)) (app c0 x) (Nat.le_refl _) h0' b
  rw [app_app] at hR
  by_cases hb : b = []
  · subst hb
    rw [write_none, List.append_nil, List.append_nil]
    exact ⟨h.err, h.st, h.ev, h.closed, h.buf⟩
  · by_cases he : c.err = 0
    · have hs := h.st he
      rw [write_open he h.closed hb]
      rcases hR with ⟨r1, -⟩ | ⟨r1, r2, r3⟩
      · exact absurd (h.err.trans he) r1
      · rw [hs] at r2 r3
        obtain ⟨k1, k2, k3⟩ := R_keep _ (app c b) (Nat.le_refl _)
        refine ⟨by rw [r2], fun _ => r2, r3.trans (h.ev.app (J.refl _)), k1.trans h.closed, Nat.le_trans k3 ?_⟩
        show (c.buf ++ b).length ≤ _
        have := h.buf
        rw [List.length_append, List.length_append]; omega
    · rw [write_bad he, List.append_nil]
      rcases hR with ⟨r1, r2, r3⟩ | ⟨r1, -⟩
      · exact ⟨r2.trans h.err, fun e => absurd e he, r3.trans h.ev, h.closed, by have := h.buf; show c.buf.length ≤ _; rw [List.length_append]; omega⟩
      · exact absurd (h.err.symm.trans r1) he
theorem Fed.feed {c0 : C} (h0 : c0.err = 0) : ∀ (l : List (List UInt8)) {c : C} {x : List UInt8} {o : List Ev}, Fed c0 x c o → Fed c0 (x ++ l.flatten) (Cn.feed c l).1 (o ++ (Cn.feed c l).2)
  | [], c, x, o, h => by
    show Fed c0 (x ++ []) c (o ++ [])
    rw [List.append_nil, List.append_nil]
    exact h
  | b :: l, c, x, o, h => by
    have := Fed.feed h0 l (h.step h0 b)
    rw [List.append_assoc, List.append_assoc] at this
    exact this
theorem new_R (r : Bool) (ms : List (List UInt8)) : R (new r ms) = (new r ms, []) := R_nil rfl (by show ¬ false = true; decide) rfl
theorem new_fed (r : Bool) (ms : List (List UInt8)) : Fed (new r ms) [] (new r ms) [] := Fed.nil (new_R r ms) rfl
/-- Byte by byte. -/
def ones (s : List UInt8) : List (List UInt8) := s.map fun b => [b]
theorem ones_flat : ∀ s : List UInt8, (ones s).flatten = s
  | [] => rfl
  | b :: s => by show [b] ++ (ones s).flatten = _; rw [ones_flat s]; rfl
theorem ones_take (s : List UInt8) {i : Nat} (h : i < s.length) : ones (s.take (i + 1)) = ones (s.take i) ++ [[s[i]]] := by
  unfold ones
  rw [List.take_succ_eq_append_getElem h, List.map_append]; rfl
/-- ConnCuts: the text at once and byte by byte. -/
theorem cuts_law (r : Bool) (ms : List (List UInt8)) (s : List UInt8) :
    (write (new r ms) s).1.err = (feed (new r ms) (ones s)).1.err ∧ joined (write (new r ms) s).2 = joined (feed (new r ms) (ones s)).2 ∧
    (close (write (new r ms) s).1).1.err = (close (feed (new r ms) (ones s)).1).1.err ∧ (close (write (new r ms) s).1).2 = (close (feed (new r ms) (ones s)).1).2 ∧
    ((write (new r ms) s).1.err ≠ 0 → (close (write (new r ms) s).1) = ((write (new r ms) s).1, [])) := by
  have h1 := Fed.feed (c0 := new r ms) rfl (ones s) (new_fed r ms)
  have h2 := Fed.feed (c0 := new r ms) rfl [s] (new_fed r ms)
  rw [feed_one] at h2
  simp only [List.nil_append, ones_flat, List.flatten_cons, List.flatten_nil, List.append_nil] at h1 h2
  have e1 := h2.err.symm.trans h1.err
  have hbad : ∀ {c : C}, c.err ≠ 0 → close c = (c, []) := fun h => if_pos (.inl h)
  refine ⟨e1, (h2.ev.symm.trans h1.ev).joined, ?_, ?_, hbad⟩
  all_goals
    by_cases h0 : (write (new r ms) s).1.err = 0
    · rw [← h2.st h0, ← h1.st (e1 ▸ h0)]
    · rw [hbad h0, hbad (fun h => h0 (e1.trans h))]
      try exact e1
theorem feed_buf (r : Bool) (ms : List (List UInt8)) (l : List (List UInt8)) : (feed (new r ms) l).1.buf.length ≤ l.flatten.length ∧ (feed (new r ms) l).1.closed = false := by
  have h := Fed.feed (c0 := new r ms) rfl l (new_fed r ms)
  have := h.buf
  simp only [List.nil_append] at this
  exact ⟨by simpa [new] using this, h.closed⟩
end Cn
end Go.Proofs.YtjffffpfejmoiaaGreatDoor
