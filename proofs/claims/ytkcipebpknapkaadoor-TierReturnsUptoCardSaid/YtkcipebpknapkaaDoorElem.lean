/-
  Elements that are joined by commas, with blanks and empty elements between them, are read again. Plain Lean.
-/
import Derived.Test.YtkcipebpknapkaaDoorList
namespace Go.Proofs.YtkcipebpknapkaaDoor
open Go.RowKit Syn

def pre : Nat → List UInt8
  | 0 => []
  | 1 => [32]
  | 2 => [9]
  | _ => [32, 9, 32]
def sep : Nat → List UInt8
  | 0 => [44]
  | 1 => [32, 44]
  | 2 => [44, 44, 32, 44]
  | _ => [9, 44]
def elem (t : List UInt8) : List UInt8 := if isTok t then t else quote t

theorem clean_append (a b : List UInt8) : cln (a ++ b) = (cln a && cln b) := by unfold cln; rw [List.all_append]
theorem clean_esc (c : UInt8) (h : ctl c = false) : cln (esc c) = true := by
  unfold esc cln
  split
  · simp [h]; decide
  · simp [h]
theorem clean_escs : ∀ l : List UInt8, cln l = true → cln (escs l) = true
  | [], _ => rfl
  | c :: l, h => by
    have h' : ctl c = false ∧ cln l = true := by
      unfold cln at h; rw [List.all_cons, Bool.and_eq_true] at h
      exact ⟨by simpa using h.1, h.2⟩
    have e : escs (c :: l) = esc c ++ escs l := by simp [escs]
    rw [e, clean_append, clean_esc c h'.1, clean_escs l h'.2]; rfl
theorem clean_quote {l : List UInt8} (h : cln l = true) : cln (quote l) = true := by
  unfold quote
  rw [clean_append]
  have : cln (34 :: escs l) = cln ([34] ++ escs l) := rfl
  rw [this, clean_append, clean_escs l h]; decide
theorem clean_elem {t : List UInt8} (h : cln t = true) : cln (elem t) = true := by
  unfold elem; split
  · exact h
  · exact clean_quote h
theorem clean_pre : ∀ n, cln (pre n) = true
  | 0 => rfl
  | 1 => by decide
  | 2 => by decide
  | n + 3 => by show cln [32, 9, 32] = true; decide
theorem clean_sep : ∀ n, cln (sep n) = true
  | 0 => by decide
  | 1 => by decide
  | 2 => by decide
  | n + 3 => by show cln [9, 44] = true; decide

/-- A text that does not end the element. -/
def Inside (q : List UInt8) : Prop := ∀ (c r : List UInt8) (out : List (List UInt8)), partsGo 44 false c out (q ++ r) = partsGo 44 false (c ++ q) out r
theorem Inside.nil : Inside [] := fun c r out => by rw [List.append_nil]; rfl
theorem Inside.one {a : UInt8} (h1 : a ≠ 34) (h2 : a ≠ 44) : Inside [a] := fun c r out => by
  show partsGo 44 false c out (a :: r) = _
  rw [partsGo_cons, if_neg (by simp), if_neg h1, if_neg (by simp [h2])]
theorem Inside.app {a b : List UInt8} (ha : Inside a) (hb : Inside b) : Inside (a ++ b) := fun c r out => by
  rw [List.append_assoc, ha, hb, List.append_assoc]
theorem Inside.all : ∀ l : List UInt8, (∀ a ∈ l, a ≠ 34 ∧ a ≠ 44) → Inside l
  | [], _ => Inside.nil
  | a :: l, h => Inside.app (a := [a]) (Inside.one (h a (by simp)).1 (h a (by simp)).2) (Inside.all l fun x hx => h x (by simp [hx]))
theorem in_quotes : ∀ (l c r : List UInt8) (out : List (List UInt8)), partsGo 44 true c out (escs l ++ 34 :: r) = partsGo 44 false (c ++ (escs l ++ [34])) out r
  | [], c, r, out => by
    show partsGo 44 true c out (34 :: r) = _
    rw [partsGo_cons, if_neg (by decide), if_pos rfl]; rfl
  | a :: l, c, r, out => by
    have e : escs (a :: l) = esc a ++ escs l := by simp [escs]
    rw [e]
    unfold esc
    split
    · show partsGo 44 true c out (92 :: a :: (escs l ++ 34 :: r)) = _
      rw [partsGo_cons, if_pos (by decide)]
      show partsGo 44 true (c ++ [92, a]) out (escs l ++ 34 :: r) = _
      rw [in_quotes l]; simp
    · next h =>
      show partsGo 44 true c out (a :: (escs l ++ 34 :: r)) = _
      have h1 : a ≠ 34 := fun e => h (.inl e)
      have h2 : a ≠ 92 := fun e => h (.inr e)
      rw [partsGo_cons, if_neg (by simp [h2]), if_neg h1, if_neg (by simp), in_quotes l]; simp
theorem Inside.quote (l : List UInt8) : Inside (quote l) := fun c r out => by
  have e : Syn.quote l ++ r = 34 :: (escs l ++ 34 :: r) := by unfold Syn.quote; simp
  rw [e, partsGo_cons, if_neg (by simp), if_pos rfl]
  show partsGo 44 true (c ++ [34]) out (escs l ++ 34 :: r) = _
  rw [in_quotes]; unfold Syn.quote; simp
theorem tc_not {a : UInt8} (h : tc a = true) : a ≠ 34 ∧ a ≠ 44 ∧ Syn.blank a = false := by
  refine ⟨fun e => ?_, fun e => ?_, ?_⟩
  · subst e; exact absurd h (by decide)
  · subst e; exact absurd h (by decide)
  · unfold Syn.blank
    by_cases h1 : a = 32
    · subst h1; exact absurd h (by decide)
    · by_cases h2 : a = 9
      · subst h2; exact absurd h (by decide)
      · simp [h1, h2]
theorem Inside.elem (t : List UInt8) : Inside (elem t) := by
  unfold Proofs.YtkcipebpknapkaaDoor.elem; split
  · next h =>
    refine Inside.all t fun a ha => ?_
    unfold isTok at h
    rw [Bool.and_eq_true] at h
    have := tc_not (List.all_eq_true.1 h.1 a ha)
    exact ⟨this.1, this.2.1⟩
  · exact Inside.quote t
theorem Inside.pre : ∀ n, Inside (pre n)
  | 0 => Inside.nil
  | 1 => Inside.one (by decide) (by decide)
  | 2 => Inside.one (by decide) (by decide)
  | n + 3 => Inside.all [32, 9, 32] (by decide)
/-- A text whose first and last byte are no blanks. -/
structure Firm (q : List UInt8) : Prop where
  fst : ∃ a r, q = a :: r ∧ Syn.blank a = false
  lst : ∃ a r, q = r ++ [a] ∧ Syn.blank a = false
theorem Firm.elem (t : List UInt8) : Firm (elem t) := by
  unfold Proofs.YtkcipebpknapkaaDoor.elem; split
  · next h =>
    unfold isTok at h
    rw [Bool.and_eq_true] at h
    have hall : ∀ a ∈ t, Syn.blank a = false := fun a ha => (tc_not (List.all_eq_true.1 h.1 a ha)).2.2
    refine ⟨?_, ?_⟩
    · cases t with
      | nil => simp at h
      | cons a r => exact ⟨a, r, rfl, hall a (by simp)⟩
    · have hne : t ≠ [] := by intro e; rw [e] at h; simp at h
      exact ⟨t.getLast hne, t.dropLast, (List.dropLast_concat_getLast hne).symm, hall _ (List.getLast_mem hne)⟩
  · exact ⟨⟨34, escs t ++ [34], rfl, by decide⟩, ⟨34, 34 :: escs t, rfl, by decide⟩⟩
theorem drop_blanks : ∀ (p l : List UInt8), p.all Syn.blank = true → (p ++ l).dropWhile Syn.blank = l.dropWhile Syn.blank
  | [], _, _ => rfl
  | a :: p, l, h => by
    rw [List.all_cons, Bool.and_eq_true] at h
    show (a :: (p ++ l)).dropWhile Syn.blank = _
    rw [List.dropWhile_cons, if_pos h.1, drop_blanks p l h.2]
theorem trim_firm {p q r : List UInt8} (hp : p.all Syn.blank = true) (hr : r.all Syn.blank = true) (hq : Firm q) : trim (p ++ q ++ r) = q := by
  obtain ⟨⟨a, x, hx, ha⟩, ⟨b, y, hy, hb⟩⟩ := hq
  have h1 : trimL (p ++ q ++ r) = q ++ r := by
    unfold trimL
    rw [List.append_assoc, drop_blanks p _ hp, hx]
    show (a :: (x ++ r)).dropWhile Syn.blank = _
    rw [List.dropWhile_cons, if_neg (by rw [ha]; decide)]; rfl
  unfold trim
  rw [h1, List.reverse_append, drop_blanks _ _ (by rw [List.all_reverse]; exact hr)]
  conv => lhs; rw [hy, List.reverse_append]
  show ((b :: y.reverse).dropWhile Syn.blank).reverse = q
  rw [List.dropWhile_cons, if_neg (by rw [hb]; decide), hy]; simp
theorem pre_blank : ∀ n, (pre n).all Syn.blank = true
  | 0 => rfl
  | 1 => by decide
  | 2 => by decide
  | n + 3 => by show List.all [32, 9, 32] Syn.blank = true; decide
theorem Firm.ne {q : List UInt8} (h : Firm q) : q.isEmpty = false := by
  obtain ⟨⟨a, r, e, _⟩, _⟩ := h; rw [e]; rfl
theorem go_sep (c r : List UInt8) (out : List (List UInt8)) : partsGo 44 false c out (44 :: r) = partsGo 44 false [] (out ++ [trim c]) r := by
  rw [partsGo_cons, if_neg (by simp), if_neg (by decide), if_pos (by decide)]
theorem go_blank {a : UInt8} (h1 : a ≠ 34) (h2 : a ≠ 44) (c r : List UInt8) (out : List (List UInt8)) : partsGo 44 false c out (a :: r) = partsGo 44 false (c ++ [a]) out r := Inside.one h1 h2 c r out
/-- One element with its separator. -/
theorem sep_step (n m : Nat) {q : List UInt8} (hi : Inside q) (hf : Firm q) (out : List (List UInt8)) :
    ∃ news, full news = [q] ∧ ∀ r, partsGo 44 false [] out (pre n ++ q ++ sep m ++ r) = partsGo 44 false [] (out ++ news) r := by
  have h0 : ∀ r, partsGo 44 false [] out (pre n ++ q ++ r) = partsGo 44 false (pre n ++ q) out r := fun r => (Inside.pre n).app hi [] r out
  have he : trim [] = [] := rfl
  have hb : trim [32] = [] := rfl
  have hone : full [q] = [q] := by unfold full; simp [hf.ne]
  have ht0 : trim (pre n ++ q) = q := by have := trim_firm (r := []) (pre_blank n) rfl hf; rwa [List.append_nil] at this
  match m with
  | 0 =>
    refine ⟨[q], hone, fun r => ?_⟩
    rw [List.append_assoc (pre n ++ q), h0]
    show partsGo 44 false _ _ (44 :: r) = _
    rw [go_sep, ht0]
  | 1 =>
    refine ⟨[q], hone, fun r => ?_⟩
    rw [List.append_assoc (pre n ++ q), h0]
    show partsGo 44 false _ _ (32 :: 44 :: r) = _
    rw [go_blank (by decide) (by decide), go_sep, trim_firm (r := [32]) (pre_blank n) (by decide) hf]
  | 2 =>
    refine ⟨[q, [], []], by unfold full; simp [hf.ne], fun r => ?_⟩
    rw [List.append_assoc (pre n ++ q), h0]
    show partsGo 44 false _ _ (44 :: 44 :: 32 :: 44 :: r) = _
    rw [go_sep, go_sep, go_blank (by decide) (by decide), go_sep, ht0, he, show trim ([] ++ [32]) = [] from rfl]; simp
  | m + 3 =>
    refine ⟨[q], hone, fun r => ?_⟩
    rw [List.append_assoc (pre n ++ q), h0]
    show partsGo 44 false _ _ (9 :: 44 :: r) = _
    rw [go_blank (by decide) (by decide), go_sep, trim_firm (r := [9]) (pre_blank n) (by decide) hf]
/-- What is joined so far (s) reads as want. -/
def Joined (s : List UInt8) (want : List (List UInt8)) : Prop := cln s = true ∧ ∃ out, full out = want ∧ ∀ r, partsGo 44 false [] [] (s ++ r) = partsGo 44 false [] out r
theorem Joined.nil : Joined [] [] := ⟨rfl, [], rfl, fun _ => rfl⟩
theorem Joined.step {s : List UInt8} {want : List (List UInt8)} (h : Joined s want) (n m : Nat) {t : List UInt8} (ht : cln t = true) : Joined (s ++ (pre n ++ elem t ++ sep m)) (want ++ [elem t]) := by
  obtain ⟨hc, out, hf, hg⟩ := h
  refine ⟨by rw [clean_append, hc, clean_append, clean_append, clean_pre, clean_elem ht, clean_sep]; rfl, ?_⟩
  obtain ⟨news, hn, hs⟩ := sep_step n m (Inside.elem t) (Firm.elem t) out
  refine ⟨out ++ news, ?_, fun r => ?_⟩
  · unfold full at *; rw [List.filter_append, hf, hn]
  · rw [List.append_assoc s, hg, hs]
theorem Joined.list {s : List UInt8} {want : List (List UInt8)} (h : Joined s want) : Syn.list s = some want := by
  obtain ⟨hc, out, hf, hg⟩ := h
  have h1 := hg []
  rw [List.append_nil, partsGo, if_neg (by decide)] at h1
  unfold Syn.list parts
  rw [if_pos hc, h1]
  show some (full (out ++ [trim []])) = some want
  rw [← hf]
  unfold full
  rw [List.filter_append]
  show some (_ ++ []) = _
  rw [List.append_nil]
end Go.Proofs.YtkcipebpknapkaaDoor
