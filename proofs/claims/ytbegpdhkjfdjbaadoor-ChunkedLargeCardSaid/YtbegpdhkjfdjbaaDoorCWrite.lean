/-
  Layer 7: Decoder.Write.
-/
import Derived.Test.YtbegpdhkjfdjbaaDoorCStep
namespace Go.Proofs.YtbegpdhkjfdjbaaDoor
open Go.RowKit Syn Ck

section
variable {P : Program}
/-- append onto an owned row from block B on. -/
theorem step_pushB {ops : Array Oper} {rest : List Oper} {o : Oper} {a : Act} {Q : Exit → Act → World → Prop} {w : World} (t e : TypeId) (z : Value) (size bytes : Nat) (s x : Operand)
    (hgd : o.guard = none) (ho : o.op = .call { callee := .builtin .append, args := #[s, x], argTypes := #[t, t] })
    (ht : P.underlying t = some (.slice e)) (hi : (P.info? e).map (fun i => (i.zero, i.size, i.bytes)) = some (some z, size, bytes)) (hzs : z.cells.size = size) (hsz : 0 < size) (hby : bytes ≤ 1000)
    {B n m c : Nat} {v : Value} {xs news : List Value} {ad : Addr} (hs : a.eval s = v) (hown : Own w B e size v n xs) (hx : a.eval x = .slice (some ad) m c) (hl : news.length = m * size)
    (hnews : ∀ j u, news[j]? = some u → w.cell? (ad.add j) = some u) (h1 : ∀ u ∈ news, u.oneCell' = true) (hn : n + m ≤ 10000000000) (hB : B ≤ w.heap.size)
    (h : ∀ v' w', Own w' B e size v' (n + m) (xs ++ news) → w.grownBy w' v.ownBlock → (v'.ownBlock = v.ownBlock ∨ v'.ownBlock = some w.heap.size) → wpList P ops Q rest (a.put o.dst v') w') : wpList P ops Q (o :: rest) a w := by
  cases hP : P.info? e with
  | none => rw [hP] at hi; cases hi
  | some i =>
    rw [hP] at hi
    simp only [Option.map_some, Option.some.injEq, Prod.mk.injEq] at hi
    obtain ⟨hz, hsize, hbytes⟩ := hi
    have hbb : (n + m) * bytes ≤ 140737488355328 := Nat.le_trans (Nat.mul_le_mul hn hby) (by decide)
    refine wpList_append_own_at w hgd s x t ho B e i z size bytes ht hP hz hsize hbytes hzs hsz v n xs hs hown ad m c news hx hl hnews h1 (by unfold maxLen; omega) hbb hB ?_
    intro v' w' hown' hg _ hat
    exact h v' w' hown' hg hat
end
theorem u8s_one (l : List UInt8) : ∀ u ∈ u8s l, u.oneCell' = true := by
  intro u hu
  unfold u8s at hu
  rw [List.mem_map] at hu
  obtain ⟨x, -, rfl⟩ := hu
  rfl
theorem u8s_app (a b : List UInt8) : u8s (a ++ b) = u8s a ++ u8s b := by simp [u8s]
theorem u8s_at {l : List UInt8} {k : Nat} (h : k < l.length) : (u8s l)[k]? = some (.int .u8 (l[k].toNat : Int)) := by simp [u8s, h]

namespace Ck
theorem Decv.kp {w w' : World} {g : Nat} {F G : Nat → Prop} {s : St} {ev : Value} (h : Decv w g F s ev) (hk : Kp G w w') (hG : ∀ k, F k → ¬ G k) : Decv w' g F s ev := by
  obtain ⟨hF, hlt, p, l, d, z, t, vt, ca, tr, vf, hb, h7, hR⟩ := h
  refine ⟨hF, fun k h => Nat.lt_of_lt_of_le (hlt k h) hk.size, p, l, d, z, t, vt, ca, tr, vf, hb.kp (hG g hF) hk, h7, fun e => ?_⟩
  obtain ⟨h1, h2, h3, h4, h5, h6, h7, h8⟩ := hR e
  exact ⟨h1, h2, h3, h4, h5.kp (fun k hj => hG k (h7 k hj)) hk, h6.kp (fun k hj => hG k (h8 k hj)) hk, h7, h8⟩
theorem Decv.err {w : World} {g : Nat} {F : Nat → Prop} {s : St} {ev : Value} (h : Decv w g F s ev) (ev' : Value) : Decv (w.setCell ⟨g, 9, none⟩ ev') g F s ev' := by
  obtain ⟨hF, hlt, p, l, d, z, t, vt, ca, tr, vf, hb, h7, hR⟩ := h
  have hk := (Kp.refl (· = g) w).set_ (fun _ => rfl) 9 ev'
  refine ⟨hF, fun k h => Nat.lt_of_lt_of_le (hlt k h) hk.size, p, l, d, z, t, vt, ca, tr, vf, hb.set_ 9 ev', h7, fun e => ?_⟩
  obtain ⟨h1, h2, h3, h4, h5, h6, h7, h8⟩ := hR e
  exact ⟨h1, h2, h3, h4, h5.kp (fun k hj e => by subst e; exact h5.ne hb (by decide) hj) hk, h6.kp (fun k hj e => by subst e; exact h6.ne hb (by decide) hj) hk, h7, h8⟩
/-- After data. -/
theorem Decv.dat {w : World} {g : Nat} {F : Nat → Prop} {s : St} (h : Decv w g F s .nilIface) (hb0 : s.bad = 0) (h3 : s.place = 3) {k : Nat} (hk : k ≤ s.left) {w' : World}
    (hw : (k < s.left ∧ w' = w.setCell ⟨g, 3, none⟩ (.int .i64 ((s.left : Int) - k))) ∨ (k = s.left ∧ w' = (w.setCell ⟨g, 3, none⟩ (.int .i64 0)).setCell ⟨g, 0, none⟩ (.int .i64 4))) :
    Decv w' g F (dat s k) .nilIface ∧ Kp (· = g) w w' := by
  obtain ⟨hF, hlt, p, l, d, z, t, vt, ca, tr, vf, hb, h7, hR⟩ := h
  obtain ⟨h1, h2, hca, htr, h5, h6, h8, h9⟩ := hR hb0
  have hd := h1.data h3
  obtain ⟨rfl, rfl⟩ := h2.2.2.1 h3
  have hok := ok_dat h1 h3 hk
  rcases hw with ⟨hlt2, rfl⟩ | ⟨rfl, rfl⟩
  · have hkp := (Kp.refl (· = g) w).set_ (fun _ => rfl) 3 (.int .i64 ((s.left : Int) - k))
    have hD : Ck.dat s k = { s with left := s.left - k, total := s.total + k } := by unfold Ck.dat; rw [if_neg (by omega)]
    refine ⟨⟨hF, fun k h => Nat.lt_of_lt_of_le (hlt k h) hkp.size, p, l, d, _, _, vt, ca, tr, vf, hb.set_ 3 _, ?_, fun e => ⟨hok, ?_, ?_, ?_, ?_, ?_, h8, h9⟩⟩, hkp⟩
    · rw [hD]; exact h7
    · rw [hD]
      refine ⟨h2.1, fun e => by change s.place ≤ 2 at e; omega, fun _ => ⟨?_, ?_⟩, fun e => by change s.place = 4 ∨ s.place = 5 at e; omega⟩
      · show (s.left : Int) - k = ((s.left - k : Nat) : Int); omega
      · show (s.total : Int) + s.left = ((s.total + k : Nat) : Int) + ((s.left - k : Nat) : Int); omega
    · rw [hD]; exact hca
    · rw [hD]; exact htr
    · rw [hD]; exact h5.kp (fun k hj e => by subst e; exact h5.ne hb (by decide) hj) hkp
    · rw [hD]; exact h6.kp (fun k hj e => by subst e; exact h6.ne hb (by decide) hj) hkp
  · have hkp := ((Kp.refl (· = g) w).set_ (fun _ => rfl) 3 (.int .i64 0)).set_ (fun _ => rfl) 0 (.int .i64 4)
    have hD : Ck.dat s s.left = { s with left := 0, total := s.total + s.left, place := 4 } := by unfold Ck.dat; rw [if_pos rfl]
    refine ⟨⟨hF, fun k h => Nat.lt_of_lt_of_le (hlt k h) hkp.size, 4, l, d, 0, _, vt, ca, tr, vf, (hb.set_ 3 _).set_ 0 _, ?_, fun e => ⟨hok, ?_, ?_, ?_, ?_, ?_, h8, h9⟩⟩, hkp⟩
    · rw [hD]; simp
    · rw [hD]
      refine ⟨rfl, fun e => by change 4 ≤ 2 at e; omega, fun e => by change 4 = 3 at e; omega, fun _ => ⟨rfl, ?_⟩⟩
      show (s.total : Int) + s.left = ((s.total + s.left : Nat) : Int); omega
    · rw [hD, hca, h3]; rfl
    · rw [hD]; exact htr
    · rw [hD]; exact h5.kp (fun k hj e => by subst e; exact h5.ne hb (by decide) hj) hkp
    · rw [hD]; exact h6.kp (fun k hj e => by subst e; exact h6.ne hb (by decide) hj) hkp
/-- What Write returns and leaves. -/
def WriteR (w : World) (g : Nat) (F : Nat → Prop) (s : St) (l : List UInt8) (e : Ending) (w' : World) : Prop :=
  ∃ vb F', e = .returned (.tuple #[vb, .int .i64 ((wr s l).2.2 : Int), errV (wr s l).1.bad]) ∧ Own w' w.heap.size 5 1 vb (wr s l).2.1.length (u8s (wr s l).2.1) ∧ Off F' vb ∧
    Decv w' g F' (wr s l).1 (errV (wr s l).1.bad) ∧ (∀ k, F' k → F k ∨ w.heap.size ≤ k) ∧ Kp F w w'
/-- In the loop. -/
def WI (w : World) (g : Nat) (F : Nat → Prop) (s : St) (l : List UInt8) (b i : Value) (w' : World) : Prop :=
  ∃ (k : Nat) (s1 : St) (out : List UInt8) (F1 : Nat → Prop), i = .int .i64 (k : Int) ∧ k ≤ l.length ∧ out.length ≤ k ∧ Hid ((s1.bad = 0 ∧ wr s (l.take k) = (s1, out, k)) ∨ (s1.bad ≠ 0 ∧ wr s l = (s1, out, k))) ∧
    Hid (Own w' w.heap.size 5 1 b out.length (u8s out)) ∧ Hid (Off F1 b) ∧ Hid (Decv w' g F1 s1 (errV s1.bad)) ∧ Hid (∀ k, F1 k → F k ∨ w.heap.size ≤ k) ∧ Hid (Kp F w w')
theorem WI.fin {w : World} {g : Nat} {F : Nat → Prop} {s : St} {l : List UInt8} {b : Value} {w' : World} {k : Nat} {s1 : St} {out : List UInt8} {F1 : Nat → Prop}
    (h1 : wr s l = (s1, out, k)) (h2 : Own w' w.heap.size 5 1 b out.length (u8s out)) (h3 : Off F1 b) (h4 : Decv w' g F1 s1 (errV s1.bad)) (h5 : ∀ k, F1 k → F k ∨ w.heap.size ≤ k) (h6 : Kp F w w') :
    WriteR w g F s l (.returned (.tuple #[b, .int .i64 (k : Int), errV s1.bad])) w'.drew := by
  unfold WriteR
  rw [h1]
  exact ⟨b, F1, rfl, h2, h3, h4, h5, h6.drew⟩
theorem wr_end {s s1 : St} {l out : List UInt8} {k : Nat} (hk : k ≤ l.length) (h : (s1.bad = 0 ∧ wr s (l.take k) = (s1, out, k)) ∨ (s1.bad ≠ 0 ∧ wr s l = (s1, out, k))) (hs : k = l.length ∨ s1.bad ≠ 0 ∨ s1.place = 8) : wr s l = (s1, out, k) := by
  rcases h with ⟨h1, h2⟩ | ⟨-, h2⟩
  · rcases hs with rfl | hs
    · rwa [List.take_length] at h2
    · have := wr_append (l.take k) (l.drop k) s
      rw [List.take_append_drop, h2] at this
      simp only at this
      rw [wr_stop hs] at this
      rw [this]
      simp
  · exact h2
/-- Is there no error yet? -/
def errN (w : World) (g : Nat) : Nat := match w.cell? ⟨g, 9, none⟩ with | some .nilIface => 1 | _ => 0
end Ck
namespace Ck
theorem errN_le (w : World) (g : Nat) : errN w g ≤ 1 := by unfold errN; split <;> omega
theorem errN_nil {w : World} {g : Nat} (h : w.cell? ⟨g, 9, none⟩ = some .nilIface) : errN w g = 1 := by unfold errN; rw [h]
theorem errN_err {w : World} {g : Nat} {t : TypeId} {v : Value} (h : w.cell? ⟨g, 9, none⟩ = some (.iface t v)) : errN w g = 0 := by unfold errN; rw [h]
theorem take_add' (l : List UInt8) (k n : Nat) : l.take (k + n) = l.take k ++ (l.drop k).take n := by rw [List.take_add]
theorem wr_more {s s1 : St} {l out : List UInt8} {k n : Nat} (h : wr s (l.take k) = (s1, out, k)) (h3 : s1.place = 3) (hb : s1.bad = 0) (h1 : 1 ≤ n) (hn : n ≤ s1.left) (hk : k + n ≤ l.length) :
    wr s (l.take (k + n)) = (dat s1 n, out ++ (l.drop k).take n, k + n) := by
  have hl : ((l.drop k).take n).length = n := by rw [List.length_take, List.length_drop]; omega
  have := wr_dat ((l.drop k).take n) s1 h3 hb (by omega) (by omega)
  rw [hl] at this
  rw [take_add', wr_append, h]
  simp only
  rw [this]
theorem wr_one {s s1 : St} {l out : List UInt8} {k : Nat} (h : wr s (l.take k) = (s1, out, k)) (h3 : s1.place ≠ 3) (h8 : s1.place ≠ 8) (hb : s1.bad = 0) (hk : k < l.length) (hs : (Ck.step s1 l[k]).bad = 0) :
    wr s (l.take (k + 1)) = (Ck.step s1 l[k], out, k + 1) := by
  rw [List.take_succ_eq_append_getElem hk, wr_append, h]
  simp only
  rw [wr_go (by omega) (by omega), if_neg h3]
  simp [wr]
theorem wr_fail {s s1 : St} {l out : List UInt8} {k : Nat} (h : wr s (l.take k) = (s1, out, k)) (h8 : s1.place ≠ 8) (hb : s1.bad = 0) (hk : k < l.length) (hs : (Ck.step s1 l[k]).bad ≠ 0) :
    wr s l = (Ck.step s1 l[k], out, k) := by
  have := wr_append (l.take k) (l.drop k) s
  rw [List.take_append_drop, h, List.drop_eq_getElem_cons hk] at this
  simp only at this
  rw [wr_bad (by omega) hs] at this
  rw [this]
  simp
theorem drop_cells {w : World} {A : Option Addr} {cap k n : Nat} {l : List UInt8} (h : Rd w 1 (.slice A l.length cap) l.length (u8s l)) (hk : k + n ≤ l.length) {b1 o1 : Nat} (hA : A = some ⟨b1, o1, none⟩) :
    ∀ j u, (u8s ((l.drop k).take n))[j]? = some u → w.cell? ((⟨b1, o1 + k, none⟩ : Addr).add j) = some u := by
  obtain ⟨A', c', e, hc, hl, hr⟩ := h
  cases e
  intro j u hu
  have hj : j < n := by
    rcases Nat.lt_or_ge j n with h1 | h1
    · exact h1
    · rw [List.getElem?_eq_none (by rw [u8s_length, List.length_take]; omega)] at hu; cases hu
  obtain ⟨b, o, e, hb, hx⟩ := hr (by omega)
  rw [hA] at e
  cases e
  have hadd : (⟨b1, o1 + k, none⟩ : Addr).add j = ⟨b1, o1 + k + j, none⟩ := by unfold Addr.add; split <;> simp_all
  rw [hadd, Nat.add_assoc]
  refine hx (k + j) u ?_
  rw [← hu]
  unfold u8s
  rw [List.getElem?_map, List.getElem?_map, List.getElem?_take, if_pos hj, List.getElem?_drop]
end Ck
namespace Ck
theorem Decv.three {w : World} {g : Nat} {F : Nat → Prop} {s : St} (h : Decv w g F s .nilIface) (hb0 : s.bad = 0) (h3 : s.place = 3) :
    w.cell? ⟨g, 0, none⟩ = some (.int .i64 3) ∧ w.cell? ⟨g, 3, none⟩ = some (.int .i64 (s.left : Int)) ∧ w.cell? ⟨g, 9, none⟩ = some .nilIface ∧ w.frozen? ⟨g, 0, none⟩ = false ∧ w.frozen? ⟨g, 3, none⟩ = false ∧ w.frozen? ⟨g, 9, none⟩ = false := by
  obtain ⟨hF, hlt, p, l, d, z, t, vt, ca, tr, vf, hb, h7, hR⟩ := h
  obtain ⟨-, hfit, -⟩ := hR hb0
  have hp : p = 3 := by rw [hfit.1, h3]; rfl
  obtain ⟨rfl, rfl⟩ := hfit.2.2.1 h3
  subst hp
  exact ⟨hb.cell 0, hb.cell 3, hb.cell 9, hb.frozen 0, hb.frozen 3, hb.frozen 9⟩
end Ck
namespace Ck
theorem Decv.nine {w : World} {g : Nat} {F : Nat → Prop} {s : St} {ev : Value} (h : Decv w g F s ev) : w.cell? ⟨g, 9, none⟩ = some ev ∧ w.frozen? ⟨g, 9, none⟩ = false := by
  obtain ⟨hF, hlt, p, l, d, z, t, vt, ca, tr, vf, hb, h7, hR⟩ := h
  exact ⟨hb.cell 9, hb.frozen 9⟩
end Ck
set_option maxRecDepth 100000 in
set_option maxHeartbeats 16000000 in
theorem write_any {g : Nat} {W0 : World} {F : Nat → Prop} (s : St) (hd : Decv W0 g F s (errV s.bad)) (l : List UInt8) (A : Option Addr) (cap : Nat) (hR : Rd W0 1 (.slice A l.length cap) l.length (u8s l)) (hO : 0 < l.length → Off F (.slice A l.length cap)) (hm : l.length ≤ 1000000000) :
    Calls Tryd.prog 13 #[.pointer (some ⟨g, 0, none⟩), .slice A l.length cap] W0 (WriteR W0 g F s l) := by
  obtain ⟨A', c', e', hcap, -, hr⟩ := hR
  cases e'
  have hR : Rd W0 1 (.slice A l.length cap) l.length (u8s l) := ⟨A, cap, rfl, hcap, u8s_length l ▸ (by omega), hr⟩
  replace hR := Lib.hid hR
  replace hO := Lib.hid hO
  have hst : WI W0 g F s l (.slice none 0 0) (.int .i64 0) W0 := ⟨0, s, [], F, rfl, Nat.zero_le _, Nat.le_refl _, Lib.hid (by
      by_cases h : s.bad = 0
      · exact .inl ⟨h, rfl⟩
      · exact .inr ⟨h, wr_stop (.inl h) l⟩), Lib.hid (own_nil _ _ _ _), Lib.hid (fun k hk => by cases hk), Lib.hid hd, Lib.hid (fun k h => .inl h), Lib.hid (Kp.refl _ _)⟩
  have hRd : l.length ≤ cap ∧ (0 < l.length → ∃ b off, A = some ⟨b, off, none⟩ ∧ b < W0.heap.size ∧ True) := ⟨hcap, fun h => by obtain ⟨b, o, e, hb, -⟩ := hr h; exact ⟨b, o, e, hb, trivial⟩⟩
  clear hr hd
  go_enter Tryd.func13, Tryd.ntmps13
  go_wp2
  go_loopw [4, 5] (fun b i wx => WI W0 g F s l b i wx) (fun b i wx => 2 * (l.length - (intOf i).toNat) + errN wx g)
  case atStart => exact hst
  case round =>
    obtain ⟨k, s1, out, F1, rfl, hk, hol, hJ, hOw, hOf, hD, hFF, hKp⟩ := hrel
    obtain ⟨hF1, hlt1, p, l1, d1, z1, t1, vt, ca, tr, vf, hb, h7, hRR⟩ := hD.out
    have c0 := hb.cell 0
    have c3 := hb.cell 3
    have c9 := hb.cell 9
    have f0 := hb.frozen 0
    have f3 := hb.frozen 3
    have f9 := hb.frozen 9
    simp only [cells] at c0 c3 c9
    by_cases hkl : k < l.length
    · by_cases hb0 : s1.bad = 0
      · rw [hb0] at c9
        replace c9 : wr.cell? ⟨g, 9, none⟩ = some .nilIface := c9
        obtain ⟨hok, hfit, rfl, rfl, ht, hf, hFt, hFf⟩ := hRR hb0
        have hJ2 : Ck.wr s (l.take k) = (s1, out, k) := by
          rcases hJ.out with h | h
          · exact h.2
          · exact absurd hb0 h.1
        by_cases h8 : s1.place = 8
        · have hp : p = 7 := h7.2 h8
          subst hp
          have hfin := Lib.hid (WI.fin (wr_end hk hJ.out (.inr (.inr h8))) hOw.out hOf.out hD.out hFF.out hKp.out)
          rw [hb0] at hfin
          replace hfin : Hid (WriteR W0 g F s l (.returned (.tuple #[u4, .int .i64 (k : Int), .nilIface])) wr.drew) := hfin
          replace h8 := Lib.hid h8
          replace hb0 := Lib.hid hb0
          replace hok := Lib.hid hok
          replace hfit := Lib.hid hfit
          clear hb h7 hRR hst ht hf hFt hFf hJ2
          go_wp2
          go_region
          go_wp2
          go_ret3
          exact hfin.out
        · have hp7 : p ≠ 7 := fun e => h8 (h7.1 e)
          have q7 : (p != 7) = true := by rw [bne_iff_ne]; exact hp7
          have he9 := errN_nil c9
          have hdk := hD.out
          rw [hb0] at hdk
          by_cases h3 : s1.place = 3
          · have hp : p = 3 := by rw [hfit.1, h3]; rfl
            subst hp
            obtain ⟨rfl, rfl⟩ := hfit.2.2.1 h3
            have hdat := hok.data h3
            obtain ⟨b1, o1, rfl, hb1, -⟩ := hRd.2 (by omega)
            by_cases hAB : s1.left ≤ l.length - k
            · obtain ⟨n, hn⟩ : ∃ n : Nat, n = s1.left := ⟨_, rfl⟩
              have hn1 : 1 ≤ n := by omega
              have hnl : n ≤ s1.left := by omega
              have hnk : k + n ≤ l.length := by omega
              have hmin : (s1.left : Int) = (n : Int) := by omega
              have hmm : min (n : Int) ((l.length : Int) - (k : Int)) = (n : Int) := by omega
              have htn : ((k : Int) + (n : Int)).toNat - k = n := by omega
              have hmore := wr_more hJ2 h3 hb0 hn1 hnl hnk
              have hlen : ((l.drop k).take n).length = n := by rw [List.length_take, List.length_drop]; omega
              have hcel := drop_cells (n := n) (Rd.kp hR.out (hO.out (by omega)) hKp.out) hnk rfl
              have hnew1 := u8s_one ((l.drop k).take n)
              have hnl2 : (u8s ((l.drop k).take n)).length = n * 1 := by rw [u8s_length, hlen, Nat.mul_one]
              obtain ⟨Ab, capb, rfl, -, -, -⟩ := Rd.own hOw.out
              replace hcel := Lib.hid hcel
              replace hn := Lib.hid hn
              replace hnew1 := Lib.hid hnew1
              replace hnl2 := Lib.hid hnl2
              replace hmore := Lib.hid hmore
              replace hok := Lib.hid hok
              replace hfit := Lib.hid hfit
              replace hJ2 := Lib.hid hJ2
              replace hdk := Lib.hid hdk
              replace h3 := Lib.hid h3
              replace hb0 := Lib.hid hb0
              replace h8 := Lib.hid h8
              replace hlt1 := Lib.hid hlt1
              have hKs := hKp.out.size
              clear hb h7 hRR hst ht hf hFt hFf hJ hRd
              go_wp2_with (at_builtin; go_loud (refine step_pushB (v := Value.slice Ab out.length capb) (n := out.length) (m := n) (c := cap - k) (xs := u8s out) (news := u8s ((l.drop k).take n)) (ad := ⟨b1, o1 + k, none⟩) (B := W0.heap.size) 30 5 (.int .u8 0) 1 1 _ _ rfl rfl Tryd.underlying30 infoU8 rfl (by decide) (by decide) rfl hOw.out rfl hnl2.out hcel.out hnew1.out (by omega) hKs ?_); intro v5 w5 ho5 hg5 hat5; obtain ⟨A5, cap5, rfl, -, -, -⟩ := Rd.own ho5; have hK5 := Lib.hid ((Kp.refl (fun k => (Value.slice Ab out.length capb).ownBlock = some k) wr).grown hg5 (fun k hk _ => hk)); have hD5 := Lib.hid (hdk.out.kp hK5.out (fun k h e => hOf.out k e h)); replace ho5 := Lib.hid ho5; replace hat5 := Lib.hid hat5; clear hg5 c0 c3 c9 f0 f3 f9; obtain ⟨c0, c3, c9, f0, f3, f9⟩ := Decv.three hD5.out (hb0.out) h3.out)
              have hdt := hD5.out.dat hb0.out h3.out hnl (w' := _) (.inr ⟨hn.out, rfl⟩)
              obtain ⟨hD6, hK6⟩ := hdt
              have hoff5 : Off F1 (Value.slice A5 (out.length + n) cap5) := fun j hj hF => by
                rcases hat5.out with h | h
                · exact hOf.out j (by rw [← h]; exact hj) hF
                · rw [h] at hj; injection hj with hj; have := hlt1.out j hF; omega
              have hog : ∀ j, (Value.slice A5 (out.length + n) cap5).ownBlock = some j → ¬ (j = g) := fun j hj e => by subst e; exact hoff5 j hj hD5.out.1
              have ho6 := ho5.out.kp hog hK6
              have hKK := (hKp.out.next (fun j hj (e : (Value.slice Ab out.length capb).ownBlock = some j) => absurd ((World.ownsRow.lt hOw.out j e).1) (by omega)) hK5.out).next (fun j hj (e : j = g) => by
                subst e
                rcases hFF.out j hD5.out.1 with h | h
                · exact h
                · omega) hK6
              refine ⟨⟨k + n, dat s1 n, out ++ (l.drop k).take n, F1, by go_num, hnk, by rw [List.length_append, hlen]; omega, Lib.hid (.inl ⟨by rw [dat_bad]; exact hb0.out, hmore.out⟩), ?_, ?_, ?_, hFF, Lib.hid hKK⟩, ?_⟩
              · rw [List.length_append, hlen, u8s_app]; exact Lib.hid ho6
              · exact Lib.hid hoff5
              · rw [dat_bad, hb0.out]; exact Lib.hid hD6
              · refine Nat.lt_of_le_of_lt (Nat.add_le_add_left (errN_le _ _) _) ?_
                simp only [intOf]; omega
            · obtain ⟨n, hn⟩ : ∃ n : Nat, n = (l.length - k) := ⟨_, rfl⟩
              have hn1 : 1 ≤ n := by omega
              have hnl : n ≤ s1.left := by omega
              have hnk : k + n ≤ l.length := by omega
              have hmin : (l.length : Int) - (k : Int) = (n : Int) := by omega
              have hmm : min (s1.left : Int) (n : Int) = (n : Int) := by omega
              have htn : ((k : Int) + (n : Int)).toNat - k = n := by omega
              have hmore := wr_more hJ2 h3 hb0 hn1 hnl hnk
              have hlen : ((l.drop k).take n).length = n := by rw [List.length_take, List.length_drop]; omega
              have hcel := drop_cells (n := n) (Rd.kp hR.out (hO.out (by omega)) hKp.out) hnk rfl
              have hnew1 := u8s_one ((l.drop k).take n)
              have hnl2 : (u8s ((l.drop k).take n)).length = n * 1 := by rw [u8s_length, hlen, Nat.mul_one]
              obtain ⟨Ab, capb, rfl, -, -, -⟩ := Rd.own hOw.out
              replace hcel := Lib.hid hcel
              replace hn := Lib.hid hn
              replace hnew1 := Lib.hid hnew1
              replace hnl2 := Lib.hid hnl2
              replace hmore := Lib.hid hmore
              replace hok := Lib.hid hok
              replace hfit := Lib.hid hfit
              replace hJ2 := Lib.hid hJ2
              replace hdk := Lib.hid hdk
              replace h3 := Lib.hid h3
              replace hb0 := Lib.hid hb0
              replace h8 := Lib.hid h8
              replace hlt1 := Lib.hid hlt1
              have hKs := hKp.out.size
              clear hb h7 hRR hst ht hf hFt hFf hJ hRd
              go_wp2_with (at_builtin; go_loud (refine step_pushB (v := Value.slice Ab out.length capb) (n := out.length) (m := n) (c := cap - k) (xs := u8s out) (news := u8s ((l.drop k).take n)) (ad := ⟨b1, o1 + k, none⟩) (B := W0.heap.size) 30 5 (.int .u8 0) 1 1 _ _ rfl rfl Tryd.underlying30 infoU8 rfl (by decide) (by decide) rfl hOw.out rfl hnl2.out hcel.out hnew1.out (by omega) hKs ?_); intro v5 w5 ho5 hg5 hat5; obtain ⟨A5, cap5, rfl, -, -, -⟩ := Rd.own ho5; have hK5 := Lib.hid ((Kp.refl (fun k => (Value.slice Ab out.length capb).ownBlock = some k) wr).grown hg5 (fun k hk _ => hk)); have hD5 := Lib.hid (hdk.out.kp hK5.out (fun k h e => hOf.out k e h)); replace ho5 := Lib.hid ho5; replace hat5 := Lib.hid hat5; clear hg5 c0 c3 c9 f0 f3 f9; obtain ⟨c0, c3, c9, f0, f3, f9⟩ := Decv.three hD5.out (hb0.out) h3.out)
              have hdt := hD5.out.dat hb0.out h3.out hnl (w' := _) (.inl ⟨by omega, rfl⟩)
              obtain ⟨hD6, hK6⟩ := hdt
              have hoff5 : Off F1 (Value.slice A5 (out.length + n) cap5) := fun j hj hF => by
                rcases hat5.out with h | h
                · exact hOf.out j (by rw [← h]; exact hj) hF
                · rw [h] at hj; injection hj with hj; have := hlt1.out j hF; omega
              have hog : ∀ j, (Value.slice A5 (out.length + n) cap5).ownBlock = some j → ¬ (j = g) := fun j hj e => by subst e; exact hoff5 j hj hD5.out.1
              have ho6 := ho5.out.kp hog hK6
              have hKK := (hKp.out.next (fun j hj (e : (Value.slice Ab out.length capb).ownBlock = some j) => absurd ((World.ownsRow.lt hOw.out j e).1) (by omega)) hK5.out).next (fun j hj (e : j = g) => by
                subst e
                rcases hFF.out j hD5.out.1 with h | h
                · exact h
                · omega) hK6
              refine ⟨⟨k + n, dat s1 n, out ++ (l.drop k).take n, F1, by go_num, hnk, by rw [List.length_append, hlen]; omega, Lib.hid (.inl ⟨by rw [dat_bad]; exact hb0.out, hmore.out⟩), ?_, ?_, ?_, hFF, Lib.hid hKK⟩, ?_⟩
              · rw [List.length_append, hlen, u8s_app]; exact Lib.hid ho6
              · exact Lib.hid hoff5
              · rw [dat_bad, hb0.out]; exact Lib.hid hD6
              · refine Nat.lt_of_le_of_lt (Nat.add_le_add_left (errN_le _ _) _) ?_
                simp only [intOf]; omega
          · have q3 : (p == 3) = false := by
              rw [beq_eq_false_iff_ne, hfit.1]
              have hpl := hok.place
              rcases (show s1.place = 0 ∨ s1.place = 1 ∨ s1.place = 2 ∨ s1.place = 4 ∨ s1.place = 5 ∨ s1.place = 6 ∨ s1.place = 7 by omega) with e | e | e | e | e | e | e <;> rw [e] <;> decide
            obtain ⟨A', c', e', -, -, r'⟩ := Rd.kp hR.out (hO.out (by omega)) hKp.out
            cases e'
            obtain ⟨b1, o1, rfl, hb1, x1⟩ := r' (by omega)
            have d1 : wr.cell? ⟨b1, o1 + k, none⟩ = some (.int .u8 (l[k].toNat : Int)) := x1 k _ (u8s_at hkl)
            have hC := cstep_any s1 hdk hb0 h3 h8 l[k]
            have hone := wr_one hJ2 h3 h8 hb0 hkl
            have hfl := wr_fail hJ2 h8 hb0 hkl
            generalize l[k] = c at *
            generalize Ck.step s1 c = s2 at *
            have hKs := hKp.out.size
            by_cases hb2 : s2.bad = 0
            · rw [hb2] at hC
              replace hC : Calls Tryd.prog 32 #[.pointer (some ⟨g, 0, none⟩), .int .u8 (c.toNat : Int)] wr fun e w' => e = .returned .nilIface ∧ Stp wr g F1 s2 .nilIface w' := hC
              have hone' := Lib.hid (hone hb2)
              replace hC := Lib.hid hC
              replace hb2 := Lib.hid hb2
              replace hok := Lib.hid hok
              replace hfit := Lib.hid hfit
              replace hJ2 := Lib.hid hJ2
              replace hdk := Lib.hid hdk
              replace h3 := Lib.hid h3
              replace hb0 := Lib.hid hb0
              replace h8 := Lib.hid h8
              replace hlt1 := Lib.hid hlt1
              clear hb h7 hRR hst ht hf hFt hFf hJ hRd hone hfl x1 r' hp7
              go_wp2_with fail
              refine hC.out.mono ?_
              rintro e w6 ⟨rfl, F2, hD6, hF6, hK6⟩
              obtain ⟨c6, f6⟩ := hD6.nine
              replace hD6 := Lib.hid hD6
              replace hF6 := Lib.hid hF6
              replace hK6 := Lib.hid hK6
              go_wp2
              have hoff : Off F2 u4 := fun j hj hF => by
                rcases hF6.out j hF with h | h
                · exact hOf.out j hj h
                · have := hOw.out.lt hj; omega
              have hD7 := hD6.out.err .nilIface
              have hK7 := (Kp.refl (· = g) w6).set_ (fun _ => rfl) 9 .nilIface
              have hOw7 := (hOw.out.kp hOf.out hK6.out).kp (fun j hj (e : j = g) => by subst e; exact hoff j hj hD6.out.1) hK7
              have hKK := (hKp.out.next (fun j hj e => by
                rcases hFF.out j e with h | h
                · exact h
                · omega) hK6.out).next (fun j hj (e : j = g) => by
                subst e
                rcases hF6.out j hD6.out.1 with h | h
                · rcases hFF.out j h with h | h
                  · exact h
                  · omega
                · omega) hK7
              refine ⟨⟨k + 1, s2, out, F2, by go_num, by omega, by omega, Lib.hid (.inl ⟨hb2.out, hone'.out⟩), Lib.hid hOw7, Lib.hid hoff, ?_, ?_, Lib.hid hKK⟩, ?_⟩
              · rw [hb2.out]; exact Lib.hid hD7
              · refine Lib.hid (fun j hj => ?_)
                rcases hF6.out j hj with h | h
                · exact hFF.out j h
                · exact .inr (by omega)
              · refine Nat.lt_of_le_of_lt (Nat.add_le_add_left (errN_le _ _) _) ?_
                simp only [intOf]; omega
            · have hfl' := Lib.hid (hfl hb2)
              have hev := errV_ne (n := (s2.bad : Int)) (by omega)
              rw [hev] at hC
              replace hev := Lib.hid hev
              replace hC := Lib.hid hC
              replace hb2 := Lib.hid hb2
              replace hok := Lib.hid hok
              replace hfit := Lib.hid hfit
              replace hJ2 := Lib.hid hJ2
              replace hdk := Lib.hid hdk
              replace h3 := Lib.hid h3
              replace hb0 := Lib.hid hb0
              replace h8 := Lib.hid h8
              replace hlt1 := Lib.hid hlt1
              clear hb h7 hRR hst ht hf hFt hFf hJ hRd hone hfl x1 r' hp7
              go_wp2_with fail
              refine hC.out.mono ?_
              rintro e w6 ⟨rfl, F2, hD6, hF6, hK6⟩
              obtain ⟨c6, f6⟩ := hD6.nine
              replace hD6 := Lib.hid hD6
              replace hF6 := Lib.hid hF6
              replace hK6 := Lib.hid hK6
              go_wp2
              have hoff : Off F2 u4 := fun j hj hF => by
                rcases hF6.out j hF with h | h
                · exact hOf.out j hj h
                · have := hOw.out.lt hj; omega
              have hD7 := hD6.out.err (.iface 46 (.int .i64 (s2.bad : Int)))
              have hK7 := (Kp.refl (· = g) w6).set_ (fun _ => rfl) 9 (.iface 46 (.int .i64 (s2.bad : Int)))
              have hOw7 := (hOw.out.kp hOf.out hK6.out).kp (fun j hj (e : j = g) => by subst e; exact hoff j hj hD6.out.1) hK7
              have hKK := (hKp.out.next (fun j hj e => by
                rcases hFF.out j e with h | h
                · exact h
                · omega) hK6.out).next (fun j hj (e : j = g) => by
                subst e
                rcases hF6.out j hD6.out.1 with h | h
                · rcases hFF.out j h with h | h
                  · exact h
                  · omega
                · omega) hK7
              refine ⟨⟨k, s2, out, F2, rfl, by omega, hol, Lib.hid (.inr ⟨hb2.out, hfl'.out⟩), Lib.hid hOw7, Lib.hid hoff, ?_, ?_, Lib.hid hKK⟩, ?_⟩
              · rw [hev.out]; exact Lib.hid hD7
              · refine Lib.hid (fun j hj => ?_)
                rcases hF6.out j hj with h | h
                · exact hFF.out j h
                · exact .inr (by omega)
              · rw [errN_err hD7.nine.1, he9]; omega
      · have hfin := Lib.hid (WI.fin (wr_end hk hJ.out (.inr (.inl hb0))) hOw.out hOf.out hD.out hFF.out hKp.out)
        have hev := errV_ne (n := (s1.bad : Int)) (by omega)
        rw [hev] at c9 hfin
        replace hb0 := Lib.hid hb0
        clear hb h7 hRR hst
        go_wp2
        go_region
        go_wp2
        go_ret3
        exact hfin.out
    · obtain rfl : k = l.length := by omega
      have hfin := Lib.hid (WI.fin (wr_end hk hJ.out (.inl rfl)) hOw.out hOf.out hD.out hFF.out hKp.out)
      clear hb h7 hRR hst
      generalize errV s1.bad = ev at *
      go_wp2
      go_region
      go_wp2
      go_ret3
      exact hfin.out
end Go.Proofs.YtbegpdhkjfdjbaaDoor
