/-
  A value with parameters that are joined to it is split again. Plain Lean.
-/
import Derived.Test.YtjcgognngeagiaaDoorElem
import Derived.Test.YtjcgognngeagiaaDoorSplWalk
namespace Go.Proofs.YtjcgognngeagiaaDoor
open Go.RowKit Syn

/-- The text of one parameter. -/
def ptext (p : List UInt8 × List UInt8) : List UInt8 := Syn.lower p.1 ++ [61] ++ elem p.2
def tails (ps : List (List UInt8 × List UInt8)) : List UInt8 := ps.flatMap fun p => 59 :: 32 :: ptext p
def pgood (p : List UInt8 × List UInt8) : Bool := isTok p.1 && cln p.2
theorem tc_low {c : UInt8} (h : tc c = true) : tc (low c) = true := by
  unfold low; split
  · next hc =>
    have e : (c + 32).toNat = c.toNat + 32 := by rw [UInt8.toNat_add]; have : (32 : UInt8).toNat = 32 := rfl; rw [this]; omega
    unfold tc tcN; rw [e]; simp; omega
  · exact h
theorem low_low (c : UInt8) : low (low c) = low c := by
  by_cases hc : 65 ≤ c.toNat ∧ c.toNat ≤ 90
  · have e1 : low c = c + 32 := by unfold low; rw [if_pos hc]
    have e : (c + 32).toNat = c.toNat + 32 := by rw [UInt8.toNat_add]; have : (32 : UInt8).toNat = 32 := rfl; rw [this]; omega
    rw [e1]; unfold low; rw [if_neg (by rw [e]; omega)]
  · have e1 : low c = c := by unfold low; rw [if_neg hc]
    rw [e1, e1]
theorem lower_lower (l : List UInt8) : Syn.lower (Syn.lower l) = Syn.lower l := by
  unfold Syn.lower; rw [List.map_map]; exact List.map_congr_left fun c _ => low_low c
theorem tok_lower {l : List UInt8} (h : isTok l = true) : isTok (Syn.lower l) = true := by
  unfold isTok at *
  rw [Bool.and_eq_true] at *
  refine ⟨?_, ?_⟩
  · unfold Syn.lower; rw [List.all_map, List.all_eq_true]
    exact fun c hc => tc_low (List.all_eq_true.1 h.1 c hc)
  · cases l with
    | nil => simp at h
    | cons a l => rfl
theorem tc_clean {c : UInt8} (h : tc c = true) : ctl c = false := by
  unfold tc tcN puncts at h
  unfold ctl ctlN
  simp at h ⊢
  omega
theorem tok_clean {l : List UInt8} (h : isTok l = true) : cln l = true := by
  unfold isTok at h
  rw [Bool.and_eq_true] at h
  unfold cln; rw [List.all_eq_true]
  intro c hc
  rw [tc_clean (List.all_eq_true.1 h.1 c hc)]; rfl
theorem joinGo_cons (acc : List UInt8) (p : List UInt8 × List UInt8) (r : List (List UInt8 × List UInt8)) : joinGo acc (p :: r) = if pgood p then joinGo (acc ++ 59 :: 32 :: ptext p) r else none := by
  obtain ⟨n, v⟩ := p
  rw [joinGo]
  have e : (isTok n && (isTok v || cln v)) = pgood (n, v) := by
    unfold pgood
    cases hv : isTok v
    · rfl
    · rw [tok_clean hv]; rfl
  rw [e]
  have e2 : acc ++ [59, 32] ++ Syn.lower n ++ [61] ++ (if isTok v then v else quote v) = acc ++ 59 :: 32 :: ptext (n, v) := by
    unfold ptext elem; simp
  rw [e2]
theorem joinGo_eq : ∀ (ps : List (List UInt8 × List UInt8)) (acc g : List UInt8), joinGo acc ps = some g → g = acc ++ tails ps ∧ ps.all pgood = true
  | [], acc, g, h => by rw [joinGo] at h; cases h; exact ⟨by simp [tails], rfl⟩
  | p :: r, acc, g, h => by
    rw [joinGo_cons] at h
    split at h
    · next hp =>
      obtain ⟨h1, h2⟩ := joinGo_eq r _ g h
      refine ⟨by rw [h1]; simp [tails], by rw [List.all_cons, hp, h2]; rfl⟩
    · cases h
/-- A text in which no b splits. -/
def Holds59 (q : List UInt8) : Prop := ∀ (c r : List UInt8) (out : List (List UInt8)), partsGo 59 false c out (q ++ r) = partsGo 59 false (c ++ q) out r
theorem Holds59.nil : Holds59 [] := fun c r out => by rw [List.append_nil]; rfl
theorem Holds59.one {a : UInt8} (h1 : a ≠ 34) (h2 : a ≠ 59) : Holds59 [a] := fun c r out => by
  show partsGo 59 false c out (a :: r) = _
  rw [partsGo_cons, if_neg (by simp), if_neg h1, if_neg (by simp [h2])]
theorem Holds59.app {a b : List UInt8} (ha : Holds59 a) (hb : Holds59 b) : Holds59 (a ++ b) := fun c r out => by
  rw [List.append_assoc, ha, hb, List.append_assoc]
theorem Holds59.all : ∀ l : List UInt8, (∀ a ∈ l, a ≠ 34 ∧ a ≠ 59) → Holds59 l
  | [], _ => Holds59.nil
  | a :: l, h => Holds59.app (a := [a]) (Holds59.one (h a (by simp)).1 (h a (by simp)).2) (Holds59.all l fun x hx => h x (by simp [hx]))
theorem in_quotes59 : ∀ (l c r : List UInt8) (out : List (List UInt8)), partsGo 59 true c out (escs l ++ 34 :: r) = partsGo 59 false (c ++ (escs l ++ [34])) out r
  | [], c, r, out => by
    show partsGo 59 true c out (34 :: r) = _
    rw [partsGo_cons, if_neg (by decide), if_pos rfl]; rfl
  | a :: l, c, r, out => by
    have e : escs (a :: l) = esc a ++ escs l := by simp [escs]
    rw [e]
    unfold esc
    split
    · show partsGo 59 true c out (92 :: a :: (escs l ++ 34 :: r)) = _
      rw [partsGo_cons, if_pos (by decide)]
      show partsGo 59 true (c ++ [92, a]) out (escs l ++ 34 :: r) = _
      rw [in_quotes59 l]; simp
    · next h =>
      show partsGo 59 true c out (a :: (escs l ++ 34 :: r)) = _
      have h1 : a ≠ 34 := fun e => h (.inl e)
      have h2 : a ≠ 92 := fun e => h (.inr e)
      rw [partsGo_cons, if_neg (by simp [h2]), if_neg h1, if_neg (by simp), in_quotes59 l]; simp
theorem Holds59.quote (l : List UInt8) : Holds59 (quote l) := fun c r out => by
  have e : Syn.quote l ++ r = 34 :: (escs l ++ 34 :: r) := by unfold Syn.quote; simp
  rw [e, partsGo_cons, if_neg (by simp), if_pos rfl]
  show partsGo 59 true (c ++ [34]) out (escs l ++ 34 :: r) = _
  rw [in_quotes59]; unfold Syn.quote; simp
theorem tc_59 {a : UInt8} (h : tc a = true) : a ≠ 59 := fun e => by subst e; exact absurd h (by decide)
theorem Holds59.tok {t : List UInt8} (h : isTok t = true) : Holds59 t := by
  unfold isTok at h
  rw [Bool.and_eq_true] at h
  exact Holds59.all t fun a ha => ⟨(tc_not (List.all_eq_true.1 h.1 a ha)).1, tc_59 (List.all_eq_true.1 h.1 a ha)⟩
theorem Holds59.elem (t : List UInt8) : Holds59 (elem t) := by
  unfold Proofs.YtjcgognngeagiaaDoor.elem; split
  · next h => exact Holds59.tok h
  · exact Holds59.quote t
theorem Holds59.ptext {p : List UInt8 × List UInt8} (h : isTok p.1 = true) : Holds59 (ptext p) :=
  ((Holds59.tok (tok_lower h)).app (Holds59.one (by decide) (by decide))).app (Holds59.elem p.2)
theorem Firm.ptext {p : List UInt8 × List UInt8} (h : isTok p.1 = true) : Firm (ptext p) := by
  have hl := tok_lower h
  unfold isTok at hl
  rw [Bool.and_eq_true] at hl
  refine ⟨?_, ?_⟩
  · unfold Proofs.YtjcgognngeagiaaDoor.ptext
    cases hn : Syn.lower p.1 with
    | nil => rw [hn] at hl; simp at hl
    | cons a r =>
      refine ⟨a, r ++ [61] ++ Proofs.YtjcgognngeagiaaDoor.elem p.2, by simp, ?_⟩
      rw [hn] at hl
      exact (tc_not (List.all_eq_true.1 hl.1 a (by simp))).2.2
  · obtain ⟨a, r, e, ha⟩ := (Firm.elem p.2).lst
    exact ⟨a, Syn.lower p.1 ++ [61] ++ r, by unfold Proofs.YtjcgognngeagiaaDoor.ptext; rw [e]; simp, ha⟩
theorem parts_tails : ∀ (ps : List (List UInt8 × List UInt8)) (c : List UInt8) (out : List (List UInt8)), ps.all pgood = true → partsGo 59 false c out (tails ps) = some (out ++ [trim c] ++ ps.map ptext)
  | [], c, out, _ => by
    show partsGo 59 false c out [] = _
    rw [partsGo, if_neg (by decide)]; simp
  | p :: r, c, out, h => by
    rw [List.all_cons, Bool.and_eq_true] at h
    have hp : isTok p.1 = true := by have := h.1; unfold pgood at this; rw [Bool.and_eq_true] at this; exact this.1
    have e : tails (p :: r) = 59 :: ([32] ++ ptext p) ++ tails r := by simp [tails]
    rw [e]
    show partsGo 59 false c out (59 :: (([32] ++ ptext p) ++ tails r)) = _
    rw [partsGo_cons, if_neg (by simp), if_neg (by decide), if_pos (by decide)]
    rw [((Holds59.one (a := 32) (by decide) (by decide)).app (Holds59.ptext hp)) [] (tails r) (out ++ [trim c]), List.nil_append, parts_tails r _ _ h.2]
    have ht : trim ([32] ++ ptext p) = ptext p := by
      have := trim_firm (p := [32]) (r := []) (by decide) rfl (Firm.ptext hp)
      rwa [List.append_nil] at this
    rw [ht]; simp
theorem partsGo_prefix (b : UInt8) : ∀ (n : Nat) (r : List UInt8) (q : Bool) (c : List UInt8) (out l : List (List UInt8)), r.length ≤ n → partsGo b q c out r = some l → ∃ t, l = out ++ t
  | n, [], q, c, out, l, _, h => by
    rw [partsGo] at h
    cases q
    · simp at h; exact ⟨_, h.symm⟩
    · simp at h
  | 0, _ :: _, _, _, _, _, hn, _ => by simp at hn
  | n + 1, a :: r, q, c, out, l, hn, h => by
    rw [partsGo_cons] at h
    simp only [List.length_cons] at hn
    split at h
    · cases r with
      | nil => cases h
      | cons d r' =>
        simp only [List.length_cons] at hn
        exact partsGo_prefix b n r' _ _ _ _ (by omega) h
    · split at h
      · exact partsGo_prefix b n r _ _ _ _ (by omega) h
      · split at h
        · obtain ⟨t, e⟩ := partsGo_prefix b n r _ _ _ _ (by omega) h
          exact ⟨[trim c] ++ t, by rw [e]; simp⟩
        · exact partsGo_prefix b n r _ _ _ _ (by omega) h
/-- If the first part is as long as all that was read, nothing was split, and more may follow. -/
theorem partsGo_whole : ∀ (n : Nat) (r : List UInt8) (q : Bool) (c y : List UInt8) (l : List (List UInt8)), r.length ≤ n → partsGo 59 q c [] r = some (y :: l) → y.length = c.length + r.length →
    l = [] ∧ y = trim (c ++ r) ∧ ∀ r', partsGo 59 q c [] (r ++ r') = partsGo 59 false (c ++ r) [] r'
  | n, [], q, c, y, l, _, h, hy => by
    rw [partsGo] at h
    cases q
    · simp at h
      obtain ⟨rfl, rfl⟩ := h
      refine ⟨rfl, by rw [List.append_nil], fun r' => by rw [List.append_nil]; rfl⟩
    · simp at h
  | 0, _ :: _, _, _, _, _, hn, _, _ => by simp at hn
  | n + 1, a :: r, q, c, y, l, hn, h, hy => by
    rw [partsGo_cons] at h
    simp only [List.length_cons] at hn hy
    split at h
    · next h92 =>
      cases r with
      | nil => cases h
      | cons d r' =>
        simp only [List.length_cons] at hn hy
        obtain ⟨h1, h2, h3⟩ := partsGo_whole n r' _ _ _ _ (by omega) h (by simp; omega)
        refine ⟨h1, by rw [h2]; simp, fun r2 => ?_⟩
        show partsGo 59 q c [] (a :: (d :: r' ++ r2)) = _
        rw [partsGo_cons, if_pos h92]
        show partsGo 59 q (c ++ [a, d]) [] (r' ++ r2) = _
        rw [h3]; simp
    · next h92 =>
      split at h
      · next h34 =>
        obtain ⟨h1, h2, h3⟩ := partsGo_whole n r _ _ _ _ (by omega) h (by simp; omega)
        refine ⟨h1, by rw [h2]; simp, fun r2 => ?_⟩
        show partsGo 59 q c [] (a :: (r ++ r2)) = _
        rw [partsGo_cons, if_neg h92, if_pos h34, h3]; simp
      · next h34 =>
        split at h
        · obtain ⟨t, e⟩ := partsGo_prefix 59 n r _ _ _ _ (by omega) h
          have e2 : y = trim c := by simp at e; exact e.1
          have := trim_le c
          rw [e2] at hy; omega
        · next h59 =>
          obtain ⟨h1, h2, h3⟩ := partsGo_whole n r _ _ _ _ (by omega) h (by simp; omega)
          refine ⟨h1, by rw [h2]; simp, fun r2 => ?_⟩
          show partsGo 59 q c [] (a :: (r ++ r2)) = _
          rw [partsGo_cons, if_neg h92, if_neg h34, if_neg h59, h3]; simp
theorem unq_escs' : ∀ (l acc : List UInt8), unqGo acc (escs l ++ [34]) = some (acc ++ l)
  | [], acc => by
    show unqGo acc (34 :: []) = _
    rw [unqGo_cons, if_pos rfl]; simp
  | c :: l, acc => by
    have e : escs (c :: l) ++ [34] = esc c ++ (escs l ++ [34]) := by simp [escs]
    rw [e]
    unfold esc
    split
    · show unqGo acc (92 :: c :: (escs l ++ [34])) = _
      rw [unqGo_cons, if_neg (by decide), if_pos rfl]
      show unqGo (acc ++ [c]) _ = _
      rw [unq_escs' l]; simp
    · next h =>
      show unqGo acc (c :: (escs l ++ [34])) = _
      rw [unqGo_cons, if_neg (fun e => h (.inl e)), if_neg (fun e => h (.inr e)), unq_escs' l]; simp
theorem unq_quote' {l : List UInt8} (h : cln l = true) : unq (quote l) = some l := by
  unfold unq
  rw [clean_quote h]
  have h1 : decide (2 ≤ (quote l).length) = true := by unfold quote; simp
  have h2 : decide ((quote l).head? = some 34) = true := by unfold quote; simp
  rw [h1, h2]
  simp only [Bool.and_self, if_true]
  show unqGo [] (escs l ++ [34]) = _
  rw [unq_escs']; rfl
theorem quote_no_tok (l : List UInt8) : isTok (quote l) = false := by
  unfold isTok quote
  have : tc 34 = false := by decide
  simp [this]
theorem tw_app {l r : List UInt8} (h : ∀ a ∈ l, a ≠ 61) : (l ++ 61 :: r).takeWhile (· != 61) = l ∧ (l ++ 61 :: r).dropWhile (· != 61) = 61 :: r := by
  induction l with
  | nil => exact ⟨rfl, rfl⟩
  | cons a l ih =>
    have ha : (a != 61) = true := by simpa using h a (by simp)
    have := ih fun x hx => h x (by simp [hx])
    rw [List.cons_append, List.takeWhile_cons, if_pos ha, List.dropWhile_cons, if_pos ha, this.1, this.2]
    exact ⟨rfl, rfl⟩
theorem param_ptext {p : List UInt8 × List UInt8} (h : pgood p = true) : param (ptext p) = some (Syn.lower p.1, p.2) := by
  unfold pgood at h
  rw [Bool.and_eq_true] at h
  have hl := tok_lower h.1
  have hne : ∀ a ∈ Syn.lower p.1, a ≠ 61 := fun a ha e => by
    subst e
    unfold isTok at hl
    rw [Bool.and_eq_true] at hl
    exact absurd (List.all_eq_true.1 hl.1 61 ha) (by decide)
  have e : ptext p = Syn.lower p.1 ++ 61 :: elem p.2 := by unfold ptext; simp
  obtain ⟨h1, h2⟩ := tw_app (r := elem p.2) hne
  rw [param_eq, e, h1, h2, hl]
  show (if isTok (elem p.2) then some (Syn.lower (Syn.lower p.1), elem p.2) else (unq (elem p.2)).map fun u => (Syn.lower (Syn.lower p.1), u)) = _
  rw [lower_lower]
  unfold elem
  by_cases ht : isTok p.2 = true
  · rw [if_pos ht, if_pos ht]
  · rw [if_neg ht, quote_no_tok, if_neg (by decide), unq_quote' h.2]; rfl
theorem ptext_ne (p : List UInt8 × List UInt8) : (ptext p).isEmpty = false := by
  unfold ptext; simp
theorem params_tails : ∀ (ps acc : List (List UInt8 × List UInt8)), ps.all pgood = true → paramsGo acc (ps.map ptext) = some (acc ++ ps.map fun p => (Syn.lower p.1, p.2))
  | [], acc, _ => by simp [paramsGo]
  | p :: r, acc, h => by
    rw [List.all_cons, Bool.and_eq_true] at h
    rw [List.map_cons, paramsGo_cons, if_neg (by rw [ptext_ne]; decide), param_ptext h.1]
    show paramsGo (acc ++ [(Syn.lower p.1, p.2)]) _ = _
    rw [params_tails r _ h.2]; simp
theorem clean_tails : ∀ ps : List (List UInt8 × List UInt8), ps.all pgood = true → cln (tails ps) = true
  | [], _ => rfl
  | p :: r, h => by
    rw [List.all_cons, Bool.and_eq_true] at h
    have hp := h.1
    unfold pgood at hp
    rw [Bool.and_eq_true] at hp
    have e : tails (p :: r) = [59, 32] ++ Syn.lower p.1 ++ [61] ++ elem p.2 ++ tails r := by simp [tails, ptext]
    rw [e, clean_append, clean_append, clean_append, clean_append, clean_tails r h.2, clean_elem hp.2, tok_clean (tok_lower hp.1)]; decide
/-- What is joined to a value that is one by itself is read back. -/
theorem split_join {x g : List UInt8} {ps : List (List UInt8 × List UInt8)} (hx : split x = some (x, [])) (hg : joinGo x ps = some g) : split g = some (x, ps.map fun p => (Syn.lower p.1, p.2)) := by
  obtain ⟨rfl, hall⟩ := joinGo_eq ps x g hg
  unfold split at hx
  cases hp : parts 59 x with
  | none => rw [hp] at hx; cases hx
  | some l =>
    rw [hp] at hx
    cases l with
    | nil => cases hx
    | cons y l =>
      have hy : y = x := by
        have hx2 : (paramsGo [] l).map (fun ps => (y, ps)) = some (x, []) := hx
        cases hq : paramsGo [] l with
        | none => rw [hq] at hx2; cases hx2
        | some q => rw [hq] at hx2; simp at hx2; exact hx2.1
      subst hy
      unfold parts at hp
      split at hp
      · next hc =>
        obtain ⟨rfl, h2, h3⟩ := partsGo_whole _ _ _ _ _ _ (Nat.le_refl _) hp (by simp)
        rw [List.nil_append] at h2 h3
        have hpg : parts 59 (y ++ tails ps) = some (y :: ps.map ptext) := by
          unfold parts
          rw [if_pos (by rw [clean_append, hc, clean_tails ps hall]; rfl), h3, parts_tails ps _ _ hall, ← h2]; rfl
        unfold split
        rw [hpg]
        show (paramsGo [] (ps.map ptext)).map _ = _
        rw [params_tails ps [] hall]; rfl
      · cases hp
end Go.Proofs.YtjcgognngeagiaaDoor
