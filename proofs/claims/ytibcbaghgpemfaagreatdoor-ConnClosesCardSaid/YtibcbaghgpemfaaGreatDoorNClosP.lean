/-
  Layer 8: the fixed texts of ConnCloses. Plain.
-/
import Derived.Test.YtibcbaghgpemfaaGreatDoorNAwP
namespace Go.Proofs.YtibcbaghgpemfaaGreatDoor
open Go.RowKit Syn Hd Fr Ck
namespace Cn
/-- A response with a body until the end. -/
def okB : List UInt8 := [72, 84, 84, 80, 47, 49, 46, 49, 32, 50, 48, 48, 32, 79, 75, 13, 10, 13, 10]
theorem ok_E : rrE okB = 0 := by kernel_rfl
theorem ok_S : rrS okB = 200 := by kernel_rfl
theorem ok_L : rrL okB = [] := by kernel_rfl
theorem ok_N : Hd.endF okB = 19 := by kernel_rfl
theorem ok_F : respF [71, 69, 84] 200 (frame 4 []) = ((4, 0), 0) := by kernel_rfl
def okV : Ev := evResp 200 []
theorem ok_step {c : C} {rest : List UInt8} (h0 : c.err = 0) (hb : c.body = false) (hr : c.resp = true) (hm : c.many < 64) (hme : c.meth = [[71, 69, 84]]) (hbuf : c.buf = okB ++ rest) :
    ∃ c' : C, R c = (c', okV :: (if rest = [] then [] else [evData rest])) ∧ c'.err = 0 ∧ c'.body = true ∧ c'.kind = 4 ∧ c'.buf = [] ∧ c'.closed = c.closed := by
  obtain ⟨e1, e2⟩ := rr_ext rest (x := okB) (by rw [ok_E]; decide)
  obtain ⟨e3, e5, e6⟩ := e2 ok_E
  rw [ok_E] at e1
  rw [ok_S] at e3
  rw [ok_L] at e5
  rw [ok_N] at e6
  have hE0 : hE c = 0 := by unfold hE; rw [hr, if_pos rfl, hbuf, e1]
  have hEv1 : hEv c = okV := by unfold hEv; rw [hr, if_pos rfl, hbuf, e3, e5]; rfl
  have hFr1 : hFr c = ((4, 0), 0) := by unfold hFr; rw [hr, if_pos rfl, hbuf, e3, e5, hme]; exact ok_F
  have hn : ¬ none_ c := fun h => by rw [h.2] at hme; cases hme
  have hw : ¬ wait c := fun h => by rw [h.2] at hE0; cases hE0
  have hs : sE c = 0 := by unfold sE; rw [if_neg hn, hE0, if_neg (by decide), if_neg (by omega), hFr1]
  have hne : ¬ c.buf = [] := by rw [hbuf]; unfold okB; simp
  have hdr : dr c.buf = rest := by
    unfold dr
    rw [hbuf, e6]
    exact List.drop_left (l₁ := okB)
  have hinf : inf c = false := by unfold inf; rw [hbuf, e3]; simp
  have hsC : sC c = { c with many := c.many + 1, buf := rest, kind := 4, len := 0, body := true, dec := Ck.zero } := by
    unfold sC
    rw [hdr, hFr1, hinf]
    rfl
  have hd : pDone (sC c) = false := by rw [hsC]; unfold pDone; simp
  have hb2 : (sC c).body = true := by rw [hsC]
  have hb3 : (pC (sC c)).body = true := by show (!pDone (sC c)) = true; rw [hd]; rfl
  have hev : pEv (sC c) = if rest = [] then [] else [evData rest] := by
    unfold pEv
    rw [hd]
    have h1 : pData (sC c) = rest := by rw [hsC]; unfold pData; simp
    rw [h1]
    unfold evs
    simp
  have hR2 := R_body (c := sC c) h0 hb2 hb3
  refine ⟨pC (sC c), ?_, ?_, hb3, ?_, ?_, rfl⟩
  · rw [R_head h0 (by rw [hb]; decide) hne hw hs, hR2, hEv1, hev]
  · show pErr (sC c) = 0
    rw [hsC]; unfold pErr; simp
  · show (sC c).kind = 4
    rw [hsC]
  · show pBuf (sC c) = []
    rw [hsC]; unfold pBuf; simp
/-- The first half of ConnCloses: such a response, the end, and one byte more. -/
theorem closes_one (data : List UInt8) : ∃ c1 : C, write (new true [[71, 69, 84]]) (okB ++ data) = (c1, okV :: (if data = [] then [] else [evData data])) ∧ c1.err = 0 ∧ c1.buf = [] ∧
    ∃ c2 : C, close c1 = (c2, [evEnd []]) ∧ c2.err = 0 ∧ c2.buf = [] ∧ write c2 [120] = ({ c2 with err := 6 }, []) := by
  obtain ⟨c', h1, h2, h3, h4, h5, h6⟩ := ok_step (c := app (new true [[71, 69, 84]]) (okB ++ data)) (rest := data) rfl rfl rfl (show (0 : Nat) < 64 by decide) rfl rfl
  refine ⟨c', ?_, h2, h5, { c' with closed := true, body := false }, ?_, h2, h5, ?_⟩
  · unfold write
    rw [if_neg (by rintro (h | h); exact h rfl; unfold okB at h; cases h)]
    exact h1
  · unfold close
    rw [if_neg (by rintro (h | h); exact h h2; rw [h6] at h; cases h), if_pos ⟨h3, h4⟩]
  · have hx : wrE { c' with closed := true, body := false } [120] = 6 := by
      unfold wrE
      rw [if_pos ⟨h2, rfl, by decide⟩]
    unfold write
    rw [hx, if_pos (.inl (by decide))]
/-- The second half: a request cut anywhere. -/
def postB : List UInt8 := [80, 79, 83, 84, 32, 47, 32, 72, 84, 84, 80, 47, 49, 46, 49, 13, 10, 104, 111, 115, 116, 58, 32, 97, 13, 10, 99, 111, 110, 116, 101, 110, 116, 45, 108, 101, 110, 103, 116, 104, 58, 32, 51, 13, 10, 13, 10, 97, 98, 99]
def cutC (k : Nat) : C := (write (new false []) (postB.take k)).1
def cutOk (k : Nat) : Bool := decide ((cutC k).err = 0) && !(cutC k).closed && !decide ((cutC k).kind = 4) && decide ((cutC k).buf.length ≤ 100) && (decide ((cutC k).body = false ∧ (cutC k).buf = []) == decide (k = 0 ∨ k = 50))
theorem cut_all : (List.range 51).all cutOk = true := by kernel_rfl
theorem cut_facts {k : Nat} (h : k ≤ 50) : (cutC k).err = 0 ∧ (cutC k).closed = false ∧ (cutC k).kind ≠ 4 ∧ (cutC k).buf.length ≤ 100 ∧ (((cutC k).body = false ∧ (cutC k).buf = []) ↔ (k = 0 ∨ k = 50)) := by
  have h1 := List.all_eq_true.1 cut_all k (List.mem_range.2 (by omega))
  unfold cutOk at h1
  simp only [Bool.and_eq_true, decide_eq_true_eq, Bool.not_eq_true', decide_eq_false_iff_not, beq_iff_eq, decide_eq_decide] at h1
  obtain ⟨⟨⟨⟨a, b⟩, c⟩, d⟩, e⟩ := h1
  exact ⟨a, b, c, d, e⟩
/-- At the very ends Close finds nothing, twice. -/
theorem cut_ends {k : Nat} (h : k = 0 ∨ k = 50) : (close (cutC k)).2 = [] ∧ (close (cutC k)).1.err = 0 ∧ close (close (cutC k)).1 = ((close (cutC k)).1, []) := by
  obtain ⟨a, b, c, -, e⟩ := cut_facts (k := k) (by omega)
  obtain ⟨e1, e2⟩ := e.2 h
  have hc : close (cutC k) = ({ cutC k with closed := true }, []) := by
    unfold close
    rw [if_neg (by rintro (x | x); exact x a; rw [b] at x; cases x), if_neg (fun x => c x.2), if_neg (by rintro (x | x); rw [e1] at x; cases x; exact x e2)]
  rw [hc]
  exact ⟨rfl, a, if_pos (.inr rfl)⟩
/-- Anywhere else Close tells of the lack, and what comes later finds the same. -/
theorem cut_mid {k : Nat} (hk : k ≤ 50) (h : ¬ (k = 0 ∨ k = 50)) : close (cutC k) = ({ cutC k with err := 21 }, []) ∧ ∀ x, write { cutC k with err := 21 } x = ({ cutC k with err := 21 }, []) := by
  obtain ⟨a, b, c, -, e⟩ := cut_facts (k := k) hk
  refine ⟨?_, fun x => ?_⟩
  · unfold close
    rw [if_neg (by rintro (x | x); exact x a; rw [b] at x; cases x), if_neg (fun x => c x.2), if_pos]
    by_cases hb : (cutC k).body = true
    · exact .inl hb
    · exact .inr (fun x => h (e.1 ⟨by simpa using hb, x⟩))
  · have hx : wrE { cutC k with err := 21 } x = 21 := by
      unfold wrE
      rw [if_neg (fun y => by cases y.1)]
    unfold write
    rw [hx, if_pos (.inl (by decide))]
end Cn
end Go.Proofs.YtibcbaghgpemfaaGreatDoor
