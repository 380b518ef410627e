/-
  Layer 7: what Encode writes is read again. Plain Lean.
-/
import Derived.Test.YtbegpdhkjfdjbaaDoorCEnc
namespace Go.Proofs.YtbegpdhkjfdjbaaDoor
open Go.RowKit Syn

namespace Ck
theorem tc_low {c : UInt8} (h : tc c = true) : tc (low c) = true := by
  unfold low; split
  · next hc =>
    have e : (c + 32).toNat = c.toNat + 32 := by rw [UInt8.toNat_add]; have : (32 : UInt8).toNat = 32 := rfl; rw [this]; omega
    unfold tc tcN; rw [e]; simp; omega
  · exact h
theorem low_low (c : UInt8) : low (low c) = low c := by
  by_cases hc : 65 ≤ c.toNat ∧ c.toNat ≤ 90
  · have e1 : low c = c + 32 := by unfold low; rw [if_pos hc]
    have e : (c + 32).toNat = c.toNat + 32 := by rw [UInt8.toNat_add]; have : (32 : UInt8).toNat = 32 := rfl; rw [this]; omega
    rw [e1]; unfold low; rw [if_neg (by rw [e]; omega)]
  · have e1 : low c = c := by unfold low; rw [if_neg hc]
    rw [e1, e1]
theorem lower_lower (l : List UInt8) : Syn.lower (Syn.lower l) = Syn.lower l := by
  unfold Syn.lower; rw [List.map_map]; exact List.map_congr_left fun c _ => low_low c
theorem tok_lower {l : List UInt8} (h : isTok l = true) : isTok (Syn.lower l) = true := by
  unfold isTok at *
  rw [Bool.and_eq_true] at *
  refine ⟨?_, ?_⟩
  · unfold Syn.lower; rw [List.all_map, List.all_eq_true]
    exact fun c hc => tc_low (List.all_eq_true.1 h.1 c hc)
  · cases l with
    | nil => simp at h
    | cons a l => rfl
theorem tc_clean {c : UInt8} (h : tc c = true) : ctl c = false := by
  unfold tc tcN puncts at h
  unfold ctl ctlN
  simp at h ⊢
  omega
theorem tok_clean {l : List UInt8} (h : isTok l = true) : cln l = true := by
  unfold isTok at h
  rw [Bool.and_eq_true] at h
  unfold cln; rw [List.all_eq_true]
  intro c hc
  rw [tc_clean (List.all_eq_true.1 h.1 c hc)]; rfl
/-- What is taken whole is taken step by step. -/
theorem wr_whole {s : St} {a b : List UInt8} (h : (wr s (a ++ b)).2.2 = a.length + b.length) : (wr s a).2.2 = a.length ∧ (wr (wr s a).1 b).2.2 = b.length ∧ (b ≠ [] → (wr s a).1.bad = 0 ∧ (wr s a).1.place ≠ 8) := by
  rw [wr_append] at h
  simp only at h
  have h1 := wr_count a s
  have h2 := wr_count b (wr s a).1
  refine ⟨by omega, by omega, fun hb => ?_⟩
  by_cases hs : (wr s a).1.bad ≠ 0 ∨ (wr s a).1.place = 8
  · rw [wr_stop hs] at h
    simp only at h
    exact absurd (List.eq_nil_of_length_eq_zero (by omega)) hb
  · constructor
    · have := fun e => hs (.inl e); omega
    · exact fun e => hs (.inr e)
theorem wr_chks : ∀ (ps : List (List UInt8)) (T : Nat), T + ps.flatten.length ≤ 65536 → wr (fresh T 0) (chks ps) = (fresh (T + ps.flatten.length) 0, ps.flatten, (chks ps).length)
  | [], T, _ => rfl
  | p :: r, T, h => by
    rw [List.flatten_cons, List.length_append] at h
    have e : chks (p :: r) = chk p ++ chks r := rfl
    rw [e, wr_append]
    by_cases h0 : p = []
    · subst h0
      have hc : chk [] = [] := rfl
      rw [hc, wr_nil]
      simp only [List.nil_append, List.flatten_cons]
      rw [wr_chks r T (by simpa using h)]
      simp
    · have h1 : 1 ≤ p.length := by
        rcases Nat.eq_zero_or_pos p.length with e | e
        · exact absurd (List.eq_nil_of_length_eq_zero e) h0
        · exact e
      rw [wr_chunk (by omega) h1]
      simp only
      rw [wr_chks r (T + p.length) (by omega)]
      simp only [List.flatten_cons, List.length_append, Nat.add_assoc]
/-- Behind the last chunk's line. -/
def tls (T n : Nat) (x : List UInt8) (fs : List (List UInt8 × List UInt8)) : St := ⟨6, 1, 0, 1, T, 0, n, x, fs, 0⟩
theorem wr_last0 {T : Nat} (hT : T ≤ 65536) : wr (fresh T 0) [48, 13, 10] = (tls T 0 [] [], [], 3) := by
  have e1 : step (fresh T 0) 48 = ⟨0, 1, 0, 1, T, 0, 0, [], [], 0⟩ := by
    have hx : hexv 48 = some 0 := rfl
    unfold step sized fresh
    simp only [hx]
    rw [if_pos (by decide), if_neg (by decide), if_neg (by decide), if_neg (by decide), if_neg (by decide), if_neg (by decide), if_neg (by omega)]
  have h1 : wr (fresh T 0) [48] = (⟨0, 1, 0, 1, T, 0, 0, [], [], 0⟩, [], 1) := by
    rw [wr_single (by simp [fresh]) (by rw [e1]), e1, if_neg (by simp [fresh])]
  rw [show ([48, 13, 10] : List UInt8) = [48] ++ [13, 10] from rfl, wr_append, h1]
  simp only
  rw [wr_two (s1 := ⟨2, 1, 0, 1, T, 0, 0, [], [], 0⟩) (s2 := tls T 0 [] []) (by simp) (by simp) ?_ (by simp) (by simp) ?_ rfl]
  · rfl
  · unfold step sized; rfl
  · unfold step tls; rfl
theorem wr_text {T : Nat} {fs : List (List UInt8 × List UInt8)} : ∀ (y x : List UInt8) (n : Nat), n + y.length ≤ 8192 → (∀ c ∈ y, c.toNat ≠ 0 ∧ c.toNat ≠ 10 ∧ c.toNat ≠ 13) → wr (tls T n x fs) y = (tls T (n + y.length) (x ++ y) fs, [], y.length)
  | [], x, n, _, _ => by rw [wr_nil, List.append_nil]; rfl
  | c :: r, x, n, hn, hc => by
    rw [List.length_cons] at hn
    obtain ⟨c0, c10, c13⟩ := hc c (by simp)
    have e1 : step (tls T n x fs) c = tls T (n + 1) (x ++ [c]) fs := by
      unfold step ended tls
      simp only
      rw [if_neg (by decide), if_neg (by decide), if_neg (by decide), if_neg (by decide), if_neg (by decide)]
      rw [if_neg, if_neg c13, if_pos c10]
      rintro (h | h | h)
      · omega
      · exact c0 h
      · rw [decide_eq_false c10] at h; simp at h
    rw [wr_go (by simp [tls]) (by rw [e1]; simp [tls]), e1, wr_text r (x ++ [c]) (n + 1) (by omega) (fun d hd => hc d (by simp [hd]))]
    rw [if_neg (by simp [tls])]
    simp only [List.length_cons, List.append_assoc, List.cons_append, List.nil_append]
    rw [show n + 1 + r.length = n + (r.length + 1) by omega]
theorem wr_line {T : Nat} {fs : List (List UInt8 × List UInt8)} {y : List UInt8} {n : Nat} {f : List UInt8 × List UInt8} (hn : n + y.length + 2 ≤ 8192) (hc : ∀ c ∈ y, c.toNat ≠ 0 ∧ c.toNat ≠ 10 ∧ c.toNat ≠ 13) (hy : y ≠ []) (hf : fline y = some f) (h64 : fs.length < 64) :
    wr (tls T n [] fs) (y ++ [13, 10]) = (tls T (n + (y.length + 2)) [] (fs ++ [f]), [], y.length + 2) := by
  rw [wr_append, wr_text y [] n (by omega) hc]
  simp only [List.nil_append]
  rw [wr_two (s1 := ⟨7, 1, 0, 1, T, 0, n + y.length + 1, y, fs, 0⟩) (s2 := tls T (n + (y.length + 2)) [] (fs ++ [f])) (by simp [tls]) (by simp [tls]) ?_ (by simp) (by simp) ?_ rfl]
  · unfold step ended tls
    simp only
    rw [if_neg (by decide), if_neg (by decide), if_neg (by decide), if_neg (by decide), if_neg (by decide)]
    rw [if_neg, if_pos (by decide)]
    rintro (h | h | h)
    · omega
    · exact absurd h (by decide)
    · simp at h
  · unfold step ended tls
    simp only
    rw [if_neg (by decide), if_neg (by decide), if_neg (by decide), if_neg (by decide), if_neg (by decide)]
    rw [if_neg, if_neg (by decide), if_neg (by decide), if_neg hy, hf]
    · simp only
      rw [if_neg (by omega)]
      congr 1
    · rintro (h | h | h)
      · omega
      · exact absurd h (by decide)
      · exact absurd h (by decide)
theorem wr_fin {T : Nat} {fs : List (List UInt8 × List UInt8)} {n : Nat} (hn : n + 2 ≤ 8192) : wr (tls T n [] fs) [13, 10] = (⟨8, 1, 0, 1, T, 0, n + 2, [], fs, 0⟩, [], 2) := by
  refine wr_two (s1 := ⟨7, 1, 0, 1, T, 0, n + 1, [], fs, 0⟩) (by simp [tls]) (by simp [tls]) ?_ (by simp) (by simp) ?_ rfl
  · unfold step ended tls
    simp only
    rw [if_neg (by decide), if_neg (by decide), if_neg (by decide), if_neg (by decide), if_neg (by decide)]
    rw [if_neg, if_pos (by decide)]
    rintro (h | h | h)
    · omega
    · exact absurd h (by decide)
    · simp at h
  · unfold step ended
    simp only
    rw [if_neg (by decide), if_neg (by decide), if_neg (by decide), if_neg (by decide), if_neg (by decide)]
    rw [if_neg, if_neg (by decide), if_neg (by decide), if_pos trivial]
    rintro (h | h | h)
    · omega
    · exact absurd h (by decide)
    · simp at h
theorem cln_byte {l : List UInt8} (h : cln l = true) : ∀ c ∈ l, c.toNat ≠ 0 ∧ c.toNat ≠ 10 ∧ c.toNat ≠ 13 := fun c hc => by
  unfold cln at h
  rw [List.all_eq_true] at h
  have := h c hc
  unfold ctl ctlN at this
  simp at this
  omega
theorem nmE_tok {x : List UInt8} (h : nmE x = 0) : isTok x = true ∧ x.length ≤ 64 ∧ nmV x = Syn.lower x := by
  have hv : nmV x = Syn.lower x := by unfold nmV; rw [if_pos h]
  unfold nmE at h
  split at h
  · rename_i ht
    split at h
    · cases h
    · exact ⟨ht, by omega, hv⟩
  · cases h
theorem vlE_cln {x : List UInt8} (h : vlE x = 0) : cln x = true ∧ (trim x).length ≤ 2048 ∧ vlV x = trim x := by
  have hv : vlV x = trim x := by unfold vlV; rw [if_pos h]
  unfold vlE at h
  split at h
  · rename_i ht
    split at h
    · cases h
    · exact ⟨ht, by omega, hv⟩
  · cases h
theorem tok58 {x : List UInt8} (h : isTok x = true) : ∀ c ∈ x, c ≠ 58 := fun c hc e => by
  unfold isTok at h
  rw [Bool.and_eq_true, List.all_eq_true] at h
  have := h.1 c hc
  rw [e] at this
  exact absurd this (by decide)
theorem take58 : ∀ (x y : List UInt8), (∀ c ∈ x, c ≠ 58) → (x ++ 58 :: y).takeWhile (· != 58) = x ∧ (x ++ 58 :: y).dropWhile (· != 58) = 58 :: y
  | [], y, _ => by simp
  | a :: r, y, h => by
    have ha : (a != 58) = true := by rw [bne_iff_ne]; exact h a (by simp)
    obtain ⟨h1, h2⟩ := take58 r y (fun c hc => h c (by simp [hc]))
    rw [List.cons_append, List.takeWhile_cons, List.dropWhile_cons, if_pos ha, if_pos ha, h1, h2]
    exact ⟨rfl, rfl⟩
theorem nmE_lower {x : List UInt8} (h : nmE x = 0) : nmE (nmV x) = 0 ∧ nmV (nmV x) = nmV x := by
  obtain ⟨h1, h2, h3⟩ := nmE_tok h
  have h4 : nmE (nmV x) = 0 := by
    unfold nmE
    rw [h3, if_pos (tok_lower h1), if_neg (by unfold Syn.lower; rw [List.length_map]; omega)]
  refine ⟨h4, ?_⟩
  have h5 := (nmE_tok h4).2.2
  rw [h5, h3, lower_lower]
theorem trim_sp (x : List UInt8) : trim (32 :: x) = trim x := rfl
theorem vlE_sp {x : List UInt8} (h : vlE x = 0) : vlE (32 :: x) = 0 ∧ vlV (32 :: x) = vlV x := by
  obtain ⟨h1, h2, h3⟩ := vlE_cln h
  have h4 : vlE (32 :: x) = 0 := by
    unfold vlE
    have : cln (32 :: x) = true := by unfold cln at *; rw [List.all_cons, h1]; rfl
    rw [if_pos this, trim_sp, if_neg (by omega)]
  exact ⟨h4, by rw [(vlE_cln h4).2.2, trim_sp, h3]⟩
/-- A trailer's line without its end. -/
def flT (p : List UInt8 × List UInt8) : List UInt8 := nmV p.1 ++ 58 :: 32 :: p.2
theorem fl_eq (p : List UInt8 × List UInt8) : fl p = flT p ++ [13, 10] := by unfold fl flT; simp
theorem fline_fl {p : List UInt8 × List UInt8} (h : okF p = true) : fline (flT p) = some (nmV p.1, p.2) := by
  obtain ⟨h1, h2, h3, h4⟩ := okF_of h
  obtain ⟨t1, t2⟩ := take58 (nmV p.1) (32 :: p.2) (tok58 (nmE_tok (nmE_lower h1).1).1)
  unfold fline flT
  rw [t1, t2]
  simp only
  rw [if_pos ⟨(nmE_lower h1).1, (vlE_sp h2).1, by rw [(nmE_lower h1).2]; exact h4⟩, (nmE_lower h1).2, (vlE_sp h2).2, h3]
theorem fl_bytes {p : List UInt8 × List UInt8} (h : okF p = true) : ∀ c ∈ flT p, c.toNat ≠ 0 ∧ c.toNat ≠ 10 ∧ c.toNat ≠ 13 := by
  obtain ⟨h1, h2, h3, h4⟩ := okF_of h
  intro c hc
  unfold flT at hc
  rw [List.mem_append, List.mem_cons, List.mem_cons] at hc
  rcases hc with hc | rfl | rfl | hc
  · exact cln_byte (tok_clean (nmE_tok (nmE_lower h1).1).1) c hc
  · decide
  · decide
  · exact cln_byte (vlE_cln h2).1 c hc
theorem wr_txt {T : Nat} : ∀ (l fs : List (List UInt8 × List UInt8)) (n : Nat), okL l = true → n + (txt l).length ≤ 8192 → fs.length + l.length ≤ 64 →
    wr (tls T n [] fs) (txt l) = (tls T (n + (txt l).length) [] (fs ++ l.map fun p => (nmV p.1, p.2)), [], (txt l).length)
  | [], fs, n, _, _, _ => by rw [show txt [] = [] from rfl, wr_nil]; simp
  | p :: r, fs, n, h, hn, h64 => by
    unfold okL at h
    rw [List.all_cons, Bool.and_eq_true] at h
    have e : txt (p :: r) = fl p ++ txt r := rfl
    rw [e, List.length_append, fl_eq, List.length_append] at hn
    have hl2 : ([13, 10] : List UInt8).length = 2 := rfl
    rw [hl2] at hn
    rw [List.length_cons] at h64
    rw [e, fl_eq, wr_append, wr_line (n := n) (by omega) (fl_bytes h.1) (by unfold flT; simp) (fline_fl h.1) (by omega)]
    simp only
    rw [wr_txt r (fs ++ [(nmV p.1, p.2)]) _ h.2 (by omega) (by rw [List.length_append, List.length_singleton]; omega)]
    simp only [List.length_append, List.length_cons, List.map_cons, List.append_assoc, List.cons_append, List.nil_append]
    rw [show n + ((flT p).length + 2) + (txt r).length = n + ((flT p).length + ((txt r).length + 1 + 1)) by omega, show (flT p).length + 2 + (txt r).length = (flT p).length + ((txt r).length + 1 + 1) by omega]
/-- What Encode writes. -/
theorem wr_enc {ps : List (List UInt8)} {l : List (List UInt8 × List UInt8)} (h : encE ps l = 0) :
    ∃ s, wr zero (encB ps l) = (s, ps.flatten, (encB ps l).length) ∧ s.place = 8 ∧ s.bad = 0 ∧ s.fields = l.map fun p => (nmV p.1, p.2) := by
  have hb : encB ps l = chks ps ++ lastB l := by unfold encB; rw [if_pos h]
  unfold encE at h
  split at h
  · cases h
  · rename_i hT
    split at h
    · rename_i ho
      rw [Bool.and_eq_true] at ho
      have hf := ho.2
      unfold fitL at hf
      simp only [Bool.and_eq_true, decide_eq_true_eq] at hf
      refine ⟨⟨8, 1, 0, 1, ps.flatten.length, 0, (txt l).length + 2, [], l.map fun p => (nmV p.1, p.2), 0⟩, ?_, rfl, rfl, rfl⟩
      have h1 := wr_chks ps 0 (by omega)
      rw [Nat.zero_add] at h1
      have h2 := wr_txt (T := ps.flatten.length) l [] 0 ho.1 (by omega) (by simpa using hf.2)
      rw [Nat.zero_add, List.nil_append] at h2
      rw [hb, wr_append, show zero = fresh 0 0 from rfl, h1]
      simp only
      unfold lastB
      rw [wr_append, wr_last0 (by omega)]
      simp only
      rw [wr_append, h2]
      simp only
      rw [wr_fin (by omega)]
      simp only [List.append_nil, List.length_append, List.length_cons, List.length_nil]
    · cases h
end Ck
end Go.Proofs.YtbegpdhkjfdjbaaDoor
