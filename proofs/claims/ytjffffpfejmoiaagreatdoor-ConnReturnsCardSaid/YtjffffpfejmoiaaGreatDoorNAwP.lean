/-
  Layer 8: the request with which every statement begins. Plain.
-/
import Derived.Test.YtjffffpfejmoiaaGreatDoorNApp
namespace Go.Proofs.YtjffffpfejmoiaaGreatDoor
open Go.RowKit Syn Hd Fr Ck
namespace Cn
def oneB : List UInt8 := [71, 69, 84, 32, 47, 32, 72, 84, 84, 80, 47, 49, 46, 49, 13, 10, 104, 111, 115, 116, 58, 32, 97, 13, 10, 13, 10]
theorem one_E : rqE oneB = 0 := by kernel_rfl
theorem one_M : rqM oneB = [71, 69, 84] := by kernel_rfl
theorem one_T : rqT oneB = [47] := by kernel_rfl
theorem one_L : rqL oneB = [([104, 111, 115, 116], [97])] := by kernel_rfl
theorem one_N : Hd.endF oneB = 27 := by kernel_rfl
theorem one_F : frame 1 [([104, 111, 115, 116], [97])] = ((1, 0), 0) := by kernel_rfl
def oneV : Ev := evReq [71, 69, 84] [47] [([104, 111, 115, 116], [97])]
/-- That request at the beginning of what has arrived. -/
theorem one_step {c : C} {rest : List UInt8} (h0 : c.err = 0) (hb : c.body = false) (hr : c.resp = false) (hm : c.many < 64) (hbuf : c.buf = oneB ++ rest) :
    ∃ c' : C, R c = ((R c').1, oneV :: evEnd [] :: (R c').2) ∧ c'.err = 0 ∧ c'.body = false ∧ c'.resp = false ∧ c'.many = c.many + 1 ∧ c'.buf = rest ∧ c'.closed = c.closed := by
  obtain ⟨e1, e2⟩ := rq_ext rest (x := oneB) (by rw [one_E]; decide)
  obtain ⟨e3, e4, e5, e6⟩ := e2 one_E
  rw [one_E] at e1
  rw [one_M] at e3
  rw [one_T] at e4
  rw [one_L] at e5
  rw [one_N] at e6
  have hE0 : hE c = 0 := by unfold hE; rw [hr, if_neg (by decide), hbuf, e1]
  have hEv1 : hEv c = oneV := by unfold hEv; rw [hr, if_neg (by decide), hbuf, e3, e4, e5]; rfl
  have hFr1 : hFr c = ((1, 0), 0) := by unfold hFr; rw [hr, if_neg (by decide), hbuf, e5, one_F]
  have hn : ¬ none_ c := fun h => by rw [h.1] at hr; cases hr
  have hw : ¬ wait c := fun h => by rw [h.2] at hE0; cases hE0
  have hs : sE c = 0 := by unfold sE; rw [if_neg hn, hE0, if_neg (by decide), if_neg (by omega), hFr1]
  have hne : ¬ c.buf = [] := by rw [hbuf]; unfold oneB; simp
  have hdr : dr c.buf = rest := by
    unfold dr
    rw [hbuf, e6]
    exact List.drop_left (l₁ := oneB)
  have hinf : inf c = false := by unfold inf; rw [hr]; rfl
  have hsC : sC c = { c with many := c.many + 1, buf := rest, kind := 1, len := 0, body := true, dec := Ck.zero } := by
    unfold sC
    rw [hdr, hFr1, hinf]
    rfl
  refine ⟨pC (sC c), ?_⟩
  have hd : pDone (sC c) = true := by rw [hsC]; unfold pDone; simp
  have hb2 : (sC c).body = true := by rw [hsC]
  have hb3 : ¬ (pC (sC c)).body = true := by show ¬ (!pDone (sC c)) = true; rw [hd]; decide
  have hev : pEv (sC c) = [evEnd []] := by
    unfold pEv
    rw [hd]
    have h1 : pData (sC c) = [] := by rw [hsC]; unfold pData; simp
    have h2 : pTr (sC c) = [] := by rw [hsC]; unfold pTr; simp
    rw [h1, h2]; rfl
  have hR2 := R_done (c := sC c) h0 hb2 hb3
  refine ⟨?_, ?_, by show (!pDone (sC c)) = false; rw [hd]; rfl, hr, rfl, ?_, rfl⟩
  · rw [R_head h0 (by rw [hb]; decide) hne hw hs, hR2, hEv1, hev]
    rfl
  · show pErr (sC c) = 0
    rw [hsC]; unfold pErr; simp
  · show pBuf (sC c) = rest
    rw [hsC]; unfold pBuf; simp
theorem new_one : ∃ c' : C, write (new false []) oneB = (c', [oneV, evEnd []]) ∧ c'.err = 0 := by
  obtain ⟨c', h1, h2, h3, -, -, h4, -⟩ := one_step (c := app (new false []) oneB) (rest := []) rfl rfl rfl (by decide) (List.append_nil oneB).symm
  rw [R_nil h2 (by rw [h3]; decide) h4] at h1
  refine ⟨c', ?_, h2⟩
  unfold write
  rw [if_neg (by rintro (h | h); exact h rfl; cases h)]
  exact h1
end Cn
end Go.Proofs.YtjffffpfejmoiaaGreatDoor
