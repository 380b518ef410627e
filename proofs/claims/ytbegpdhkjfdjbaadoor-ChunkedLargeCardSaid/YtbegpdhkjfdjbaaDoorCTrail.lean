/-
  Layer 7: a byte after the last chunk in the decoder, and any byte that is no data.
-/
import Derived.Test.YtbegpdhkjfdjbaaDoorCStp
namespace Go.Proofs.YtbegpdhkjfdjbaaDoor
open Go.RowKit Syn Ck

theorem Own.apart' {w : World} {B B' sz sz' n n' : Nat} {e t : TypeId} {v v' : Value} {xs xs' : List Value} (h : Own w B e sz v n xs) (h' : Own w B' t sz' v' n' xs') (ht : e ≠ t) : Off (fun k => v.ownBlock = some k) v' :=
  fun _ hk e => h.apart h' ht e hk
theorem pushG_u8' {ops : Array Oper} {rest : List Oper} {o : Oper} {a : Act} {Q : Exit → Act → World → Prop} {w : World} (s x : Operand)
    (hgd : o.guard = none) (ho : o.op = .call { callee := .builtin .append, args := #[s, x], argTypes := #[30, 30] })
    {n B : Nat} {v u : Value} {xs : List Value} (hs : a.eval s = v) (hown : Own w 0 5 1 v n xs) (hB : w.heap.size = B) (hx : a.eval x = .slice (some ⟨B, 0, none⟩) 1 1)
    (h1 : u.oneCell' = true) (hn : n < 10000000000)
    (h : ∀ v' w', Own w' 0 5 1 v' (n + 1) (xs ++ [u]) → (w.alloc (.cells #[u] 5)).grownBy w' v.ownBlock → (v'.ownBlock = v.ownBlock ∨ v'.ownBlock = some (w.heap.size + 1)) → wpList Tryd.prog ops Q rest (a.put o.dst v') w') : wpList Tryd.prog ops Q (o :: rest) a (w.alloc (.cells #[u] 5)) := by
  subst hB
  exact pushG_u8 s x hgd ho hs hown hx h1 hn h
namespace Ck
/-- The decoder's memory at a state: its own blocks F, its cells, the texts' rows. -/
def Decv (w : World) (g : Nat) (F : Nat → Prop) (s : St) (ev : Value) : Prop :=
  F g ∧ (∀ k, F k → k < w.heap.size) ∧ ∃ p l d z t vt ca tr vf, Blk w g 68 (cells p l d z t vt ca tr vf ev) ∧ (p = 7 ↔ s.place = 8) ∧
   (s.bad = 0 → Ok s ∧ Fits s p l d z t ∧ ca = decide (s.place = 7) ∧ tr = s.sect ∧ Own w 0 5 1 vt s.text.length (u8s s.text) ∧ Own w 0 64 2 vf s.fields.length (prs s.fields) ∧
     (∀ k, vt.ownBlock = some k → F k) ∧ (∀ k, vf.ownBlock = some k → F k))
/-- What a step leaves. -/
def Stp (w : World) (g : Nat) (F : Nat → Prop) (s : St) (ev : Value) (w' : World) : Prop :=
  ∃ F', Decv w' g F' s ev ∧ (∀ k, F' k → F k ∨ w.heap.size ≤ k) ∧ Kp F w w'
theorem fits_seven {s : St} {p l d z t : Int} (h : Ok s) (hf : Fits s p l d z t) : p = 7 ↔ s.place = 8 := by
  rw [hf.1]
  constructor
  · intro e
    rcases Nat.lt_or_ge s.place 8 with h1 | h1
    · exact absurd e (cp_le (by omega))
    · have := h.place; omega
  · intro e; rw [e]; rfl
/-- A step that leaves the texts alone. -/
theorem Stp.of {w w' : World} {g : Nat} {F : Nat → Prop} {s s' : St} {vt vf : Value} {p l d z t : Int} {ca : Bool} {tr : Int} (hb : Blk w g 68 (cells p l d z t vt ca tr vf .nilIface)) (hF : F g) (hlt : ∀ k, F k → k < w.heap.size)
    (ht : Own w 0 5 1 vt s.text.length (u8s s.text)) (hf : Own w 0 64 2 vf s.fields.length (prs s.fields)) (hFt : ∀ k, vt.ownBlock = some k → F k) (hFf : ∀ k, vf.ownBlock = some k → F k)
    (h8 : s'.place ≠ 8) (hok : s'.bad = 0 → Ok s' ∧ ca = decide (s'.place = 7) ∧ tr = s'.sect ∧ s'.text = s.text ∧ s'.fields = s.fields) (h : Aft g w w' s' vt ca tr vf) : Stp w g F s' .nilIface w' := by
  obtain ⟨hk, p', l', d', z', t', hb', h7, hfit⟩ := h
  refine ⟨F, ⟨hF, fun k hk' => Nat.lt_of_lt_of_le (hlt k hk') hk.size, p', l', d', z', t', vt, ca, tr, vf, hb', ?_, fun e => ?_⟩, fun k h => .inl h, hk.mono fun k _ e => by rw [e]; exact hF⟩
  · exact ⟨fun e => absurd e h7, fun e => absurd e h8⟩
  · obtain ⟨h1, h2, h3, h4, h5⟩ := hok e
    refine ⟨h1, hfit e, h2, h3, ?_, ?_, hFt, hFf⟩
    · rw [h4]; exact ht.kp (fun k hj e => by subst e; exact ht.ne hb (by decide) hj) hk
    · rw [h5]; exact hf.kp (fun k hj e => by subst e; exact hf.ne hb (by decide) hj) hk
end Ck

namespace Ck
theorem ended_lf {s : St} {c : UInt8} (h1 : s.sect ≠ 8192) (h2 : c.toNat = 10) (h3 : s.place = 7) (hb : s.bad = 0) :
    (endB s.text s.fields ≠ 0 → ended s c = s.err 34 ∧ endB s.text s.fields = 34) ∧
    (endB s.text s.fields = 0 → ended s c = ⟨if s.text = [] then 8 else 6, s.digits, s.number, s.line, s.total, s.left, s.sect + 1, [], endF s.text s.fields, 0⟩) := by
  have n1 : ¬ (s.sect = 8192 ∨ c.toNat = 0 ∨ (decide (c.toNat = 10) != decide (s.place = 7)) = true) := by
    rintro (e | e | e)
    · exact h1 e
    · omega
    · rw [h2, h3] at e; exact absurd e (by decide)
  have n2 : c.toNat ≠ 13 := by omega
  have e : ended s c = if s.text = [] then { s with place := 8, sect := s.sect + 1 } else match fline s.text with
    | none => s.err 34
    | some f => if s.fields.length = 64 then s.err 34 else { s with fields := s.fields ++ [f], place := 6, text := [], sect := s.sect + 1 } := by
    unfold ended
    rw [if_neg n1, if_neg n2, if_neg (by omega)]
    congr 1
  rw [e]
  obtain ⟨pl, D, Z, L, T, lf, sc, tx, fl, bd⟩ := s
  simp only at h1 h3 hb ⊢
  subst hb
  unfold endB endF
  by_cases k : tx = []
  · subst k
    exact ⟨fun h => absurd rfl h, fun _ => rfl⟩
  · rw [if_neg k, if_neg k, if_neg k, if_neg k]
    cases fline tx with
    | none => exact ⟨fun _ => ⟨rfl, rfl⟩, fun h => absurd h (by simp)⟩
    | some f =>
      simp only
      by_cases k2 : fl.length = 64
      · rw [if_pos k2, if_pos k2]; exact ⟨fun _ => ⟨rfl, rfl⟩, fun h => absurd h (by decide)⟩
      · rw [if_neg k2, if_neg k2]; exact ⟨fun h => absurd rfl h, fun _ => rfl⟩
end Ck

set_option maxRecDepth 100000 in
set_option maxHeartbeats 8000000 in
theorem trailer_any {g : Nat} {w : World} {F : Nat → Prop} (s : St) (h : Ok s) (hp : 6 ≤ s.place ∧ s.place ≤ 7) (c : UInt8) {l d z t : Int} (vt vf : Value)
    (hb : Blk w g 68 (cells 6 l d z t vt (decide (s.place = 7)) s.sect vf .nilIface)) (hF : F g) (hlt : ∀ k, F k → k < w.heap.size)
    (ht : Own w 0 5 1 vt s.text.length (u8s s.text)) (hf : Own w 0 64 2 vf s.fields.length (prs s.fields)) (hFt : ∀ k, vt.ownBlock = some k → F k) (hFf : ∀ k, vf.ownBlock = some k → F k) :
    Calls Tryd.prog 49 #[.pointer (some ⟨g, 0, none⟩), .int .u8 (c.toNat : Int)] w fun e w' => e = .returned (errV (ended s c).bad) ∧ Stp w g F (ended s c) .nilIface w' := by
  have hsc := h.sect
  have htx := h.text
  have hfl := h.fields
  have hbd := h.bad
  have hfit : ∀ s', 6 ≤ s'.place → (∀ q, q = cp s'.place → Fits s' q l d z t) := fun s' h1 q h2 => ⟨h2, fun e => by omega, fun e => by omega, fun e => by omega⟩
  -- the error
  have hbad : ∀ w', Kp (· = g) w w' → (∃ tr : Int, Blk w' g 68 (cells 6 l d z t vt (decide (s.place = 7)) tr vf .nilIface)) → Stp w g F (s.err 34) .nilIface w' := fun w' hk ⟨tr, hb'⟩ => by
    refine ⟨F, ⟨hF, fun k hk' => Nat.lt_of_lt_of_le (hlt k hk') hk.size, 6, l, d, z, t, vt, _, tr, vf, hb', ?_, fun e => absurd e (by simp [St.err])⟩, fun k h => .inl h, hk.mono fun k _ e => by rw [e]; exact hF⟩
    exact ⟨fun e => by omega, fun e => by change s.place = 8 at e; omega⟩
  replace hbad := Lib.hid hbad
  have c7 := hb.cell 7
  have c6 := hb.cell 6
  have c5 := hb.cell 5
  have f7 := hb.frozen 7
  have f6 := hb.frozen 6
  have f5 := hb.frozen 5
  simp only [cells] at c5 c6 c7
  have Hb := Lib.hid hb
  have Ht := Lib.hid ht
  have Hf := Lib.hid hf
  replace hFt := Lib.hid hFt
  replace hFf := Lib.hid hFf
  replace hF := Lib.hid hF
  replace hlt := Lib.hid hlt
  replace hfit := Lib.hid hfit
  clear hb ht hf
  by_cases k1 : s.sect = 8192
  · have q1 : ((s.sect : Int) == 8192) = true := beq_cast_true k1
    have hs : Hid (ended s c = s.err 34) := Lib.hid (by unfold ended; rw [if_pos (.inl k1)])
    rw [hs.out]
    replace k1 := Lib.hid k1
    replace h := Lib.hid h
    go_enter Tryd.func49, Tryd.ntmps49
    go_wp2
    go_ret
    exact ⟨rfl, hbad.out w (Kp.refl _ _) ⟨_, Hb.out⟩⟩
  · have q1 : ((s.sect : Int) == 8192) = false := beq_cast_false k1
    have hsl : s.sect < 8192 := by omega
    by_cases k2 : c.toNat = 0
    · have q2 : ((c.toNat : Int) == 0) = true := beq_cast_true k2
      have hs : Hid (ended s c = s.err 34) := Lib.hid (by unfold ended; rw [if_pos (.inr (.inl k2))])
      rw [hs.out]
      replace k1 := Lib.hid k1
      replace k2 := Lib.hid k2
      replace h := Lib.hid h
      go_enter Tryd.func49, Tryd.ntmps49
      go_wp2
      go_ret
      exact ⟨rfl, hbad.out w (Kp.refl _ _) ⟨_, Hb.out⟩⟩
    · have q2 : ((c.toNat : Int) == 0) = false := beq_cast_false k2
      have hw : s.place = 7 ∨ s.place = 6 := by omega
      rcases hw with hw | hw
      · have e6 : decide (s.place = 7) = true := decide_eq_true hw
        rw [e6] at c6 Hb hbad
        by_cases k3 : c.toNat = 10
        · have q3 : ((c.toNat : Int) == 10) = true := beq_cast_true k3
          have q4 : ((c.toNat : Int) == 13) = false := beq_cast_false (show c.toNat ≠ 13 by omega)
          obtain ⟨hs1, hs2⟩ := ended_lf k1 k3 hw hbd
          have hok := fun e => ok_ended h hp.1 c e
          have hk1 := ((Kp.refl (· = g) w).set_ (fun _ => rfl) 7 (.int .i64 (s.sect + 1 : Int))).set_ (fun _ => rfl) 6 (.bool false)
          have Hb1 : Blk ((w.setCell ⟨g, 7, none⟩ (.int .i64 (s.sect + 1 : Int))).setCell ⟨g, 6, none⟩ (.bool false)) g 68 (cells 6 l d z t vt false (s.sect + 1 : Int) vf .nilIface) := (Hb.out.set_ 7 _).set_ 6 _
          have hD := dended_any s.text s.fields vt vf l d z t (s.sect + 1 : Int) Hb1 hF.out hFt.out hFf.out (Ht.out.kp (fun k hj e => by subst e; exact Ht.out.ne Hb.out (by decide) hj) hk1) (Hf.out.kp (fun k hj e => by subst e; exact Hf.out.ne Hb.out (by decide) hj) hk1) (by omega) (by omega)
          replace hD := Lib.hid hD
          replace hs1 := Lib.hid hs1
          replace hs2 := Lib.hid hs2
          replace hok := Lib.hid hok
          replace k1 := Lib.hid k1
          replace k2 := Lib.hid k2
          replace k3 := Lib.hid k3
          replace h := Lib.hid h
          replace hk1 := Lib.hid hk1
          replace Hb1 := Lib.hid Hb1
          go_enter Tryd.func49, Tryd.ntmps49
          go_wp2_with fail
          refine hD.out.mono ?_
          rintro e w' ⟨rfl, hk, p', vt', vf', hb', h7, hR⟩
          go_wp2
          go_ret
          have hkk : Kp F w w' := (hk1.out.mono (fun k _ e => by rw [e]; exact hF.out)).trans hk
          by_cases kE : endB s.text s.fields = 0
          · obtain ⟨r1, r2, r3, r4, r5⟩ := hR kE
            have hs3 := hs2.out kE
            refine ⟨by rw [kE, hs3]; rfl, fun k => F k ∨ (w.heap.size ≤ k ∧ k < w'.heap.size), ⟨.inl hF.out, ?_, p', l, d, z, t, vt', false, (s.sect + 1 : Int), vf', hb', ?_, fun e0 => ?_⟩, ?_, hkk⟩
            · rintro k (hk' | hk')
              · exact Nat.lt_of_lt_of_le (hlt.out k hk') hkk.size
              · exact hk'.2
            · rw [hs3, r1]
              by_cases kx : s.text = []
              · rw [if_pos kx, if_pos kx]; simp
              · rw [if_neg kx, if_neg kx]; simp
            · have hok1 := hok.out e0
              rw [hs3] at hok1 ⊢
              refine ⟨hok1, hfit.out _ ?_ _ ?_, ?_, rfl, r2, r3, fun k hj => .inl (r4 k hj), fun k hj => ?_⟩
              · dsimp only; split <;> decide
              · rw [r1]; dsimp only; split <;> rfl
              · dsimp only; split <;> decide
              · rcases r5 k hj with h5 | h5
                · exact .inl h5
                · rw [size_setCell, size_setCell] at h5
                  exact .inr ⟨h5, r3.lt hj⟩
            · rintro k (hk' | hk')
              · exact .inl hk'
              · exact .inr hk'.1
          · obtain ⟨e1, e2⟩ := hs1.out kE
            rw [e2, e1]
            refine ⟨rfl, F, ⟨hF.out, fun k hk' => Nat.lt_of_lt_of_le (hlt.out k hk') hkk.size, p', l, d, z, t, vt', false, (s.sect + 1 : Int), vf', hb', ?_, fun e => absurd e (by simp [St.err])⟩, fun k h => .inl h, hkk⟩
            exact ⟨fun e => absurd e (h7 kE), fun e => by change s.place = 8 at e; omega⟩
        · have q3 : ((c.toNat : Int) == 10) = false := beq_cast_false k3
          have hs : Hid (ended s c = s.err 34) := Lib.hid (by unfold ended; rw [if_pos (.inr (.inr (by rw [decide_eq_false k3, e6]; rfl)))])
          rw [hs.out]
          replace k1 := Lib.hid k1
          replace k2 := Lib.hid k2
          replace k3 := Lib.hid k3
          replace h := Lib.hid h
          go_enter Tryd.func49, Tryd.ntmps49
          go_wp2
          go_ret
          exact ⟨rfl, hbad.out w (Kp.refl _ _) ⟨_, Hb.out⟩⟩
      · have e6 : decide (s.place = 7) = false := decide_eq_false (by omega)
        rw [e6] at c6 Hb hbad
        by_cases k3 : c.toNat = 10
        · have q3 : ((c.toNat : Int) == 10) = true := beq_cast_true k3
          have hs : Hid (ended s c = s.err 34) := Lib.hid (by unfold ended; rw [if_pos (.inr (.inr (by rw [decide_eq_true k3, e6]; rfl)))])
          rw [hs.out]
          replace k1 := Lib.hid k1
          replace k2 := Lib.hid k2
          replace k3 := Lib.hid k3
          replace h := Lib.hid h
          go_enter Tryd.func49, Tryd.ntmps49
          go_wp2
          go_ret
          exact ⟨rfl, hbad.out w (Kp.refl _ _) ⟨_, Hb.out⟩⟩
        · have q3 : ((c.toNat : Int) == 10) = false := beq_cast_false k3
          have n1 : ¬ (s.sect = 8192 ∨ c.toNat = 0 ∨ (decide (c.toNat = 10) != decide (s.place = 7)) = true) := by
            rintro (e | e | e)
            · exact k1 e
            · exact k2 e
            · rw [e6, decide_eq_false k3] at e; exact absurd e (by decide)
          have hok := fun e => ok_ended h hp.1 c e
          by_cases k4 : c.toNat = 13
          · have q4 : ((c.toNat : Int) == 13) = true := beq_cast_true k4
            have hs : Hid (ended s c = { s with place := 7, sect := s.sect + 1 }) := Lib.hid (by unfold ended; rw [if_neg n1, if_pos k4])
            rw [hs.out] at hok ⊢
            replace hok := hok hbd
            replace k1 := Lib.hid k1
            replace k2 := Lib.hid k2
            replace k3 := Lib.hid k3
            replace k4 := Lib.hid k4
            replace n1 := Lib.hid n1
            have H := Lib.hid h
            clear h
            replace hok := Lib.hid hok
            go_enter Tryd.func49, Tryd.ntmps49
            go_wp2
            go_ret
            have hk1 := ((Kp.refl (· = g) w).set_ (fun _ => rfl) 7 (.int .i64 (s.sect + 1 : Int))).set_ (fun _ => rfl) 6 (.bool true)
            refine ⟨by first | rfl | (rw [hbd]; rfl), F, ⟨hF.out, fun k hk' => Nat.lt_of_lt_of_le (hlt.out k hk') hk1.size, 6, l, d, z, t, vt, true, (s.sect + 1 : Int), vf, (Hb.out.set_ 7 _).set_ 6 _, by simp, fun e => ?_⟩, fun k h => .inl h, hk1.mono fun k _ e => by rw [e]; exact hF.out⟩
            exact ⟨hok.out, hfit.out _ (by dsimp only; omega) _ rfl, rfl, rfl, Ht.out.kp (fun k hj e => by subst e; exact Ht.out.ne Hb.out (by decide) hj) hk1, Hf.out.kp (fun k hj e => by subst e; exact Hf.out.ne Hb.out (by decide) hj) hk1, hFt.out, hFf.out⟩
          · have q4 : ((c.toNat : Int) == 13) = false := beq_cast_false k4
            have hs : Hid (ended s c = { s with text := s.text ++ [c], sect := s.sect + 1 }) := Lib.hid (by unfold ended; rw [if_neg n1, if_neg k4, if_pos k3])
            rw [hs.out] at hok ⊢
            replace hok := hok hbd
            replace k1 := Lib.hid k1
            replace k2 := Lib.hid k2
            replace k3 := Lib.hid k3
            replace k4 := Lib.hid k4
            replace n1 := Lib.hid n1
            have H := Lib.hid h
            clear h
            replace hok := Lib.hid hok
            obtain ⟨A, cap, rfl, hcap, -, -⟩ := Rd.own Ht.out
            have hk1 := (Kp.refl (· = g) w).set_ (fun _ => rfl) 7 (.int .i64 (s.sect + 1 : Int))
            have Hb1 := Lib.hid (Hb.out.set_ 7 (.int .i64 (s.sect + 1 : Int)))
            have Ht1 := Lib.hid (Ht.out.kp (fun k hj e => by subst e; exact Ht.out.ne Hb.out (by decide) hj) hk1)
            have Hf1 := Lib.hid (Hf.out.kp (fun k hj e => by subst e; exact Hf.out.ne Hb.out (by decide) hj) hk1)
            replace hk1 := Lib.hid hk1
            go_enter Tryd.func49, Tryd.ntmps49
            go_wp2_with (at_builtin; go_loud (refine pushG_u8' (v := Value.slice A s.text.length cap) (n := s.text.length) (xs := u8s s.text) _ _ rfl rfl rfl Ht1.out (size_setCell _ _ _) rfl rfl (by omega) ?_); intro v5 w5 ho5 hg5 hat5; obtain ⟨A5, cap5, rfl, -, -, -⟩ := Rd.own ho5; have hK5 := Lib.hid (((Kp.refl (fun k => (Value.slice A s.text.length cap).ownBlock = some k) (w.setCell ⟨g, 7, none⟩ (.int .i64 (s.sect + 1 : Int)))).alloc _).grown hg5 (fun k hk _ => hk)); have Hb5 := Lib.hid (Hb1.out.kp (Own.ne Ht1.out Hb1.out (by decide)) hK5.out); replace ho5 := Lib.hid ho5; replace hat5 := Lib.hid hat5; clear hg5 c5 c6 c7 f5 f6 f7; have c5 := Hb5.out.cell 5; have f5 := Hb5.out.frozen 5; simp only [cells] at c5)
            go_ret
            have hkk := ((hk1.out.mono (fun k _ e => by rw [e]; exact hF.out)).next (fun k _ hk => hFt.out k hk) hK5.out).set_ (g := g) (fun _ => hF.out) 5 (.slice A5 (s.text.length + 1) cap5)
            have hk2 := (Kp.refl (· = g) w5).set_ (fun _ => rfl) 5 (.slice A5 (s.text.length + 1) cap5)
            have hfk := Hf1.out.kp (Own.apart' Ht1.out Hf1.out (by decide)) hK5.out
            refine ⟨by first | rfl | (rw [hbd]; rfl), fun k => F k ∨ (w.heap.size ≤ k ∧ k < w5.heap.size), ⟨.inl hF.out, ?_, 6, l, d, z, t, _, false, (s.sect + 1 : Int), vf, Hb5.out.set_ 5 (.slice A5 (s.text.length + 1) cap5), ?_, fun e => ⟨hok.out, hfit.out _ (by dsimp only; omega) _ (by dsimp only; rw [hw]; rfl), ?_, rfl, ?_, ?_, fun k hj => ?_, fun k hj => .inl (hFf.out k hj)⟩⟩, ?_, hkk⟩
            · rintro k (hk' | hk')
              · exact Nat.lt_of_lt_of_le (hlt.out k hk') hkk.size
              · rw [size_setCell]; exact hk'.2
            · dsimp only; rw [hw]; decide
            · dsimp only; rw [hw]; rfl
            · dsimp only
              rw [u8s_snoc, List.length_append, List.length_singleton]
              exact ho5.out.kp (fun k hj e => by subst e; exact ho5.out.ne Hb5.out (by decide) hj) hk2
            · exact hfk.kp (fun k hj e => by subst e; exact hfk.ne Hb5.out (by decide) hj) hk2
            · rcases hat5.out with h5 | h5
              · exact .inl (hFt.out k (by rw [← h5]; exact hj))
              · have hl5 := ho5.out.lt hj
                rw [h5] at hj
                injection hj with hj
                rw [size_setCell] at hj
                exact .inr ⟨by omega, hl5⟩
            · rintro k (hk' | hk')
              · exact .inl hk'
              · exact .inr hk'.1
end Go.Proofs.YtbegpdhkjfdjbaaDoor
