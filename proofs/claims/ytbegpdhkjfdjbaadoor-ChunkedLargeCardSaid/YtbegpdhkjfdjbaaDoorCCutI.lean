/-
  Layer 7: two decoders side by side.
-/
import Derived.Test.YtbegpdhkjfdjbaaDoorCUtil
namespace Go.Proofs.YtbegpdhkjfdjbaaDoor
open Go.RowKit Syn Ck

section
variable {P : Program}
theorem run_append_nilx (w : World) (t ty e : TypeId) (i : TypeInfo) (ht : P.underlying t = some (.slice e)) (hi : P.info? e = some i) (A : Option Addr) (n cap c : Nat) (hn : n ≤ cap) :
    (Builtin.append_ #[t, t] ty #[.slice A n cap, .slice none 0 c]).run P w = .ok (.slice A n cap) w := by
  cases A <;> simp [Builtin.append_, run_underlying ht, sizeOf, typeInfo, hi, Builtin.lenOf, Builtin.firstCells, hn, storeCells]
/-- append of a slice that reads as news onto an owned row. -/
theorem step_pushR {ops : Array Oper} {rest : List Oper} {o : Oper} {a : Act} {Q : Exit → Act → World → Prop} {w : World} (t e : TypeId) (z : Value) (size bytes : Nat) (s x : Operand)
    (hgd : o.guard = none) (ho : o.op = .call { callee := .builtin .append, args := #[s, x], argTypes := #[t, t] })
    (ht : P.underlying t = some (.slice e)) (hi : (P.info? e).map (fun i => (i.zero, i.size, i.bytes)) = some (some z, size, bytes)) (hzs : z.cells.size = size) (hsz : 0 < size) (hby : bytes ≤ 1000)
    {B n m c : Nat} {v : Value} {xs news : List Value} {A : Option Addr} (hs : a.eval s = v) (hown : Own w B e size v n xs) (hx : a.eval x = .slice A m c) (hR : Rd w size (.slice A m c) m news)
    (h1 : ∀ u ∈ news, u.oneCell' = true) (hn : n + m ≤ 10000000000) (hB : B ≤ w.heap.size)
    (h : ∀ v' w', Own w' B e size v' (n + m) (xs ++ news) → w.grownBy w' v.ownBlock → (v'.ownBlock = v.ownBlock ∨ v'.ownBlock = some w.heap.size) → wpList P ops Q rest (a.put o.dst v') w') : wpList P ops Q (o :: rest) a w := by
  obtain ⟨A', c', e', hc, hl, hr⟩ := hR
  cases e'
  cases A with
  | some ad =>
    refine step_pushB t e z size bytes s x hgd ho ht hi hzs hsz hby hs hown hx hl (fun j u hu => ?_) h1 hn hB h
    have hm : 0 < m := by
      rcases Nat.eq_zero_or_pos m with h0 | h0
      · subst h0
        rw [Nat.zero_mul] at hl
        rw [List.eq_nil_of_length_eq_zero hl] at hu; cases hu
      · exact h0
    obtain ⟨b, o', e1, hlt, hx'⟩ := hr hm
    cases e1
    have hadd : (⟨b, o', none⟩ : Addr).add j = ⟨b, o' + j, none⟩ := by unfold Addr.add; split <;> simp_all
    rw [hadd]; exact hx' j u hu
  | none =>
    have hm : m = 0 := by
      rcases Nat.eq_zero_or_pos m with h0 | h0
      · exact h0
      · obtain ⟨b, o', e1, -⟩ := hr h0; cases e1
    subst hm
    rw [Nat.zero_mul] at hl
    have hnil := List.eq_nil_of_length_eq_zero hl
    subst hnil
    have hk := h v w (by rw [Nat.add_zero, List.append_nil]; exact hown) ⟨rfl, rfl, rfl, Nat.le_refl _, fun _ _ _ => rfl⟩ (.inl rfl)
    obtain ⟨Av, cv, rfl, hcv, -, -⟩ := Rd.own hown
    cases hP : P.info? e with
    | none => rw [hP] at hi; cases hi
    | some i =>
      refine wpList_plain hgd fun K hK => ?_
      have hrn := run_append_nilx (P := P) w t o.type e i ht hP Av n cv c hcv
      unfold Oper.wp execOp
      simp only [ho, resolve, invoke, builtin, Sem.run_bind, Sem.run_pure, Result.andThen_ok, List.map_toArray, List.map_cons, List.map_nil, hs, hx, hrn]
      exact hK _ _ hk
end
namespace Ck
theorem wr_good : ∀ (l : List UInt8) (s : St), (s.bad ≠ 0 → s.place ≠ 8) → (wr s l).1.bad ≠ 0 → (wr s l).1.place ≠ 8
  | [], s, h => h
  | c :: r, s, h => by
    by_cases hs : s.bad ≠ 0 ∨ s.place = 8
    · rw [wr_stop hs]; exact h
    · by_cases hb : (Ck.step s c).bad ≠ 0
      · rw [wr_bad hs hb]
        intro _
        show (Ck.step s c).place ≠ 8
        rw [err_place (by omega) hb]; omega
      · rw [wr_go hs hb]
        exact wr_good r (Ck.step s c) (fun h => absurd h hb)
theorem wr_short : ∀ (l : List UInt8) (s : St), (wr s l).1.bad = 0 → (wr s l).2.2 < l.length → (wr s l).1.place = 8
  | [], s, _, h => absurd h (by simp [wr])
  | c :: r, s, h1, h2 => by
    by_cases hs : s.bad ≠ 0 ∨ s.place = 8
    · rw [wr_stop hs] at h1 ⊢
      rcases hs with h | h
      · exact absurd h1 h
      · exact h
    · by_cases hb : (Ck.step s c).bad ≠ 0
      · rw [wr_bad hs hb] at h1; exact absurd h1 hb
      · rw [wr_go hs hb] at h1 h2 ⊢
        exact wr_short r (Ck.step s c) h1 (by simpa using h2)
theorem Decv.below {w w' : World} {g : Nat} {F : Nat → Prop} {s : St} {ev : Value} (h : Decv w g F s ev) (hb : Below w.heap.size w w') : Decv w' g F s ev :=
  h.kp (G := fun _ => False) (Kp.below (Kp.refl _ _) hb) (fun _ _ h => h)
/-- Two decoders: what stands in a round. -/
structure CutI (W0 : World) (B5 ga gb : Nat) (Fa : Nat → Prop) (sa : St) (want : Value) (wl : List UInt8) (s : St) (out : List UInt8) (got : Value) (Fb : Nat → Prop) (w : World) : Prop where
  hgot : Own w B5 5 1 got out.length (u8s out)
  offg : Off Fb got
  db : Decv w gb Fb s (errV s.bad)
  da : Decv w ga Fa sa (errV sa.bad)
  apart : ∀ j, Fa j → ¬ Fb j
  faB : ∀ j, Fa j → j < B5
  hwant : Own w 0 5 1 want wl.length (u8s wl)
  wantB : ∀ j, want.ownBlock = some j → j < B5
  offw : Off Fb want
  old : ∀ j, Fb j → W0.heap.size ≤ j
  below : Below W0.heap.size W0 w
  size : B5 ≤ w.heap.size
  base : W0.heap.size ≤ B5
theorem CutI.write {W0 : World} {B5 ga gb : Nat} {Fa : Nat → Prop} {sa : St} {want : Value} {wl : List UInt8} {s : St} {out : List UInt8} {got : Value} {Fb : Nat → Prop} {w w' : World} {p : List UInt8} {e : Ending}
    (h : CutI W0 B5 ga gb Fa sa want wl s out got Fb w) (hw : WriteR w gb Fb s p e w') :
    ∃ vb Fb', e = .returned (.tuple #[vb, .int .i64 ((wr s p).2.2 : Int), errV (wr s p).1.bad]) ∧ Own w' w.heap.size 5 1 vb (wr s p).2.1.length (u8s (wr s p).2.1) ∧
      CutI W0 B5 ga gb Fa sa want wl (wr s p).1 out got Fb' w' := by
  obtain ⟨vb, F', h1, h2, h3, h4, h5, h6⟩ := hw
  refine ⟨vb, F', h1, h2, ?_⟩
  have hsz := h.size
  have hbs := h.below.size
  refine ⟨h.hgot.kp h.offg h6, fun j hj hF => ?_, h4, h.da.kp h6 h.apart, fun j hj hF => ?_, h.faB, h.hwant.kp h.offw h6, h.wantB, fun j hj hF => ?_, fun j hF => ?_, h.below.trans (h6.toBelow hbs h.old), Nat.le_trans hsz h6.size, h.base⟩
  · rcases h5 j hF with h7 | h7
    · exact h.offg j hj h7
    · have := h.hgot.lt hj; omega
  · rcases h5 j hF with h7 | h7
    · exact h.apart j hj h7
    · have := h.faB j hj; omega
  · rcases h5 j hF with h7 | h7
    · exact h.offw j hj h7
    · have := h.wantB j hj; omega
  · rcases h5 j hF with h7 | h7
    · exact h.old j h7
    · omega
theorem CutI.grow {W0 : World} {B5 ga gb : Nat} {Fa : Nat → Prop} {sa : St} {want : Value} {wl : List UInt8} {s : St} {out out2 : List UInt8} {got got' : Value} {Fb : Nat → Prop} {w w' : World}
    (h : CutI W0 B5 ga gb Fa sa want wl s out got Fb w) (hg : w.grownBy w' got.ownBlock) (ho : Own w' B5 5 1 got' (out.length + out2.length) (u8s out ++ u8s out2)) (hat : got'.ownBlock = got.ownBlock ∨ got'.ownBlock = some w.heap.size) :
    CutI W0 B5 ga gb Fa sa want wl s (out ++ out2) got' Fb w' := by
  have hk := (Kp.refl (fun j => got.ownBlock = some j) w).grown hg (fun j hj _ => hj)
  have hgB : ∀ j, got.ownBlock = some j → B5 ≤ j := fun j hj => (World.ownsRow.lt h.hgot j hj).1
  have hsz := h.size
  have hbase := h.base
  refine ⟨?_, fun j hj hF => ?_, h.db.kp hk (fun j hF e => h.offg j e hF), h.da.kp hk (fun j hF e => ?_), h.apart, h.faB, h.hwant.kp (fun j hj e => ?_) hk, h.wantB, h.offw, h.old, h.below.trans (hk.toBelow h.below.size (fun j hj => ?_)), Nat.le_trans hsz hk.size, hbase⟩
  · rw [u8s_app, List.length_append]; exact ho
  · rcases hat with h1 | h1
    · exact h.offg j (by rw [← h1]; exact hj) hF
    · rw [h1] at hj; injection hj with hj; have := h.db.2.1 j hF; omega
  · have := h.faB j hF; have := hgB j e; omega
  · have := h.wantB j hj; have := hgB j e; omega
  · have := hgB j hj; omega
theorem CutI.step {W0 : World} {B5 ga gb : Nat} {Fa : Nat → Prop} {sa : St} {want : Value} {wl : List UInt8} {s : St} {out : List UInt8} {got : Value} {Fb : Nat → Prop} {w w' : World}
    (h : CutI W0 B5 ga gb Fa sa want wl s out got Fb w) (hb : Below w.heap.size w w') : CutI W0 B5 ga gb Fa sa want wl s out got Fb w' :=
  ⟨own_below h.hgot hb, h.offg, h.db.below hb, h.da.below hb, h.apart, h.faB, own_below h.hwant hb, h.wantB, h.offw, h.old, h.below.trans (hb.mono h.below.size), Nat.le_trans h.size hb.size, h.base⟩
end Ck
end Go.Proofs.YtbegpdhkjfdjbaaDoor
