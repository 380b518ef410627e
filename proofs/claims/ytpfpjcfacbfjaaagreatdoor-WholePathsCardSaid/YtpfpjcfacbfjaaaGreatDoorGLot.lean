/-
  sort.order2_func, median_func, medianAdjacent_func with a comparison that may lay blocks.
-/
import Derived.Test.YtpfpjcfacbfjaaaGreatDoorGKit
import Derived.Shelf.GgSortFunc.LotD
namespace Go.Proofs.YtpfpjcfacbfjaaaGreatDoor
open Go.Shelf Go.RowKit Go.Lib Go.Sort
variable {P : Program} {ρ : Ren} {α : Type} [Inhabited α]
section
variable {g : Nat} {lb : Array Value} {sf : Nat} {sb : Array Value} {enc : α → List Value} {k : Nat} {lt : α → α → Bool} {blk off : Nat} {d : Array α} {w W : World}
/-- The counter's cell: the world behind a callee of this lot is W, drawn on, grown, the counter set. -/
def Cnt (W : World) (cb co t : Nat) (w' : World) : Prop := ∃ n os, w' = sortWorld (Value.int .i64) W cb co n (one t) os
theorem cnt_swk {w0 : World} {cb co t : Nat} {w' : World} (h : SWK enc k w0 blk off d W) (hcb : w0.heap.size ≤ cb) (hc : Cnt W cb co t w') : SWK enc k w0 blk off d w' := by
  obtain ⟨m, os0, rfl⟩ := h
  obtain ⟨n, os, rfl⟩ := hc
  unfold sortWorld sortWorldK
  rw [ahead_grow]
  obtain ⟨os', _, e⟩ := putRow_grow_new (Value.int .i64) (Sort.ahead (putRowK enc k (Sort.ahead w0 m) blk off d) n) os0 cb co (one t) (by show (putRowK enc k (Sort.ahead w0 m) blk off d).heap.size ≤ cb; rw [size_putRowK]; exact hcb)
  rw [e, grow_grow]
  exact ⟨m + n, _, by unfold sortWorldK; rw [← putRowK_drewN enc k w0 m n blk off d]; rfl⟩
theorem cnt_trans {cb co s t : Nat} {w1 w2 : World} (hcb : cb < W.heap.size) (h : Cnt W cb co s w1) (h' : Cnt w1 cb co t w2) : Cnt W cb co t w2 := by
  obtain ⟨n, os, rfl⟩ := h
  obtain ⟨m, os', rfl⟩ := h'
  exact ⟨_, _, sortWorld_on _ _ cb co n m _ _ os os' hcb rfl⟩
theorem cnt_start {cb co s : Nat} (h : Holds (Value.int .i64) W cb co (one s)) : Cnt W cb co s W := ⟨0, #[], (sortWorld_start _ _ cb co _ h).symm⟩
theorem cnt_alloc {cb co t : Nat} {o : Obj} {w' : World} (hcb : cb < W.heap.size) (h : Cnt (W.alloc o) cb co t w') : Cnt W cb co t w' := by
  obtain ⟨n, os, rfl⟩ := h
  exact ⟨_, _, sortWorld_alloc _ W _ cb co _ _ _ hcb⟩
theorem cnt_holds {cb co s t : Nat} {w' : World} (hcb : cb < W.heap.size) (h0 : Holds (Value.int .i64) W cb co (one s)) (h : Cnt W cb co t w') : Holds (Value.int .i64) w' cb co (one t) := by
  obtain ⟨n, os, rfl⟩ := h
  exact holds_sortWorld _ _ cb co n (one s) _ os hcb h0 rfl
theorem cnt_lt {cb co t : Nat} {w' : World} (hcb : cb < W.heap.size) (h : Cnt W cb co t w') : cb < w'.heap.size := by
  obtain ⟨n, os, rfl⟩ := h
  exact lt_sortWorld _ _ cb co n _ os hcb
theorem cnt_cell {cb co t : Nat} {w' : World} {a : Addr} {v : Value} (h : Cnt W cb co t w') (h1 : a.block ≠ cb) (h2 : a.block < W.heap.size) (hv : W.cell? a = some v) : w'.cell? a = some v := by
  obtain ⟨n, os, rfl⟩ := h
  unfold sortWorld
  rw [cell?_grow _ _ _ (by show a.block < (putRow _ _ _ _ _).heap.size; rw [size_putRow]; exact h2), cell?_putRow_other _ _ cb co _ _ (Or.inl h1)]
  exact hv
theorem cnt_grown {cb co s : Nat} {w' : World} (h : Holds (Value.int .i64) W cb co (one s)) (hg : Grown W w') : Cnt W cb co s w' := by
  obtain ⟨q, os, rfl⟩ := hg
  refine ⟨q, os, ?_⟩
  unfold sortWorld
  rw [putRow_self _ _ _ _ _ (holds_ahead _ W q cb co _ h)]
  rfl
theorem cnt_set {cb co s t : Nat} {w' : World} (hcb : cb < W.heap.size) (hS : Holds (Value.int .i64) W cb co (one s)) (hg : Grown W w') : Cnt W cb co t (w'.setCell ⟨cb, co, none⟩ (.int .i64 t)) := by
  obtain ⟨q, os, rfl⟩ := hg
  refine ⟨q, os, ?_⟩
  unfold sortWorld
  rw [← one_set (holds_ahead _ W q cb co _ hS) t, setCell_eq, setCell_eq]
  exact mapBlock_grow (Sort.ahead W q) os cb _ hcb

set_option maxHeartbeats 1000000 in
set_option maxRecDepth 100000 in
theorem order2_g (L : LaysGg.n39 P ρ) (S : SortIn P g lb sf sb enc k lt blk off d w) (hW : SWK enc k w blk off d W) (a b cb co s : Nat) (ha : a < d.size) (hb : b < d.size)
    (hS : Holds (Value.int .i64) W cb co (one s)) (hcb : cb < W.heap.size) (hs : s < 4611686018427387904) :
    Calls P (ρ.f 39) #[.agg #[.func (.func g) #[] lb, .func (.func sf) #[] sb], .int .i64 a, .int .i64 b, .pointer (some ⟨cb, co, none⟩)] W fun e w' =>
      e = .returned (.tuple #[.int .i64 (order2 lt d a b s).1, .int .i64 (order2 lt d a b s).2.1]) ∧ Cnt W cb co (order2 lt d a b s).2.2 w' := by
  have mixed := L.mixed; have t0 := L.t0; have a0 := L.a0; have z0 := L.z0; have v0 := L.v0; have t3 := L.t3; have a3 := L.a3; have z3 := L.z3; have v3 := L.v3; have t4 := L.t4; have a4 := L.a4; have z4 := L.z4; have v4 := L.v4; have t26 := L.t26; have a26 := L.a26; have z26 := L.z26; have v26 := L.v26; have t37 := L.t37; have a37 := L.a37; have z37 := L.z37; have v37 := L.v37; have t44 := L.t44; have a44 := L.a44; have z44 := L.z44; have v44 := L.v44; have t64 := L.t64; have a64 := L.a64; have z64 := L.z64; have v64 := L.v64
  have u44 := run_underlying L.t44
  have eg := S.eg
  have hS1 : Holds (Value.int .i64) (W.alloc (.cells #[.func (.func g) #[] lb, .func (.func sf) #[] sb] (ρ.t 44))) cb co (one s) := by rw [alloc_eq_grow]; exact holds_grow _ W _ cb co _ hcb hS
  have hc1 : cb < (W.alloc (.cells #[.func (.func g) #[] lb, .func (.func sf) #[] sb] (ρ.t 44))).heap.size := by rw [alloc_eq_grow, size_grow]; omega
  have hl := fun (v : Bool) (hv : lt d[b]! d[a]! = v) => S.ask (hW.alloc (.cells #[.func (.func g) #[] lb, .func (.func sf) #[] sb] (ρ.t 44))) rfl b a hb ha rfl rfl hv
  have HS1 := Lib.hid hS1
  have HL := Lib.hid hl
  clear hS1 hl hS hW S
  go_enter L.f39, BodyGg.n39_ntmps ρ
  cases hlv : lt d[b]! d[a]! with
  | true =>
    have hl := HL.out true hlv
    have e2 := Lib.hid (show order2 lt d a b s = (b, a, s + 1) by simp [order2, hlv])
    clear hlv
    go_wp2_with (go_at_fn g; refine hl.mono ?_; rintro e w' ⟨rfl, hg⟩; obtain ⟨cs, fs⟩ := one_cell (cnt_holds hc1 HS1.out (cnt_grown HS1.out hg)); replace hg := Lib.hid hg)
    go_ret2
    rw [e2.out]
    exact ⟨rfl, cnt_alloc hcb (by simpa using cnt_set (t := s + 1) hc1 HS1.out hg.out)⟩
  | false =>
    have hl := HL.out false hlv
    have e2 := Lib.hid (show order2 lt d a b s = (a, b, s) by simp [order2, hlv])
    clear hlv
    go_wp2_with (go_at_fn g; refine hl.mono ?_; rintro e w' ⟨rfl, hg⟩; replace hg := Lib.hid hg)
    go_ret2
    rw [e2.out]
    exact ⟨rfl, cnt_alloc hcb (cnt_grown HS1.out hg.out)⟩

set_option maxHeartbeats 1000000 in
set_option maxRecDepth 100000 in
theorem median_g (L : LaysGg.n38 P ρ) (S : SortIn P g lb sf sb enc k lt blk off d w) (hW : SWK enc k w blk off d W) (a b c cb co s : Nat) (ha : a < d.size) (hb : b < d.size) (hc : c < d.size)
    (hS : Holds (Value.int .i64) W cb co (one s)) (hcb0 : w.heap.size ≤ cb) (hcb : cb < W.heap.size) (hs : s + 3 < 4611686018427387904) :
    Calls P (ρ.f 38) #[.agg #[.func (.func g) #[] lb, .func (.func sf) #[] sb], .int .i64 a, .int .i64 b, .int .i64 c, .pointer (some ⟨cb, co, none⟩)] W fun e w' =>
      e = .returned (.int .i64 (median lt d a b c s).1) ∧ Cnt W cb co (median lt d a b c s).2 w' := by
  have mixed := L.mixed; have t0 := L.t0; have a0 := L.a0; have z0 := L.z0; have v0 := L.v0; have t3 := L.t3; have a3 := L.a3; have z3 := L.z3; have v3 := L.v3; have t4 := L.t4; have a4 := L.a4; have z4 := L.z4; have v4 := L.v4; have t26 := L.t26; have a26 := L.a26; have z26 := L.z26; have v26 := L.v26; have t37 := L.t37; have a37 := L.a37; have z37 := L.z37; have v37 := L.v37; have t44 := L.t44; have a44 := L.a44; have z44 := L.z44; have v44 := L.v44; have t64 := L.t64; have a64 := L.a64; have z64 := L.z64; have v64 := L.v64; have t67 := L.t67; have a67 := L.a67; have z67 := L.z67; have v67 := L.v67
  have u44 := run_underlying L.t44
  have e39 : ∀ args w, (callFunc (ρ.f 39) args).run P w = .ok (.enter (ρ.f 39) args) w := enters_of L.f39 (by kernel_rfl) rfl
  have l1 := order2_lt' lt d s ha hb
  have s1 := order2_swaps' lt d a b s
  have l2 := order2_lt' lt d (order2 lt d a b s).2.2 l1.2 hc
  have s2 := order2_swaps' lt d (order2 lt d a b s).2.1 c (order2 lt d a b s).2.2
  have hW1 := hW.alloc (.cells #[.func (.func g) #[] lb, .func (.func sf) #[] sb] (ρ.t 44))
  have hS1 : Holds (Value.int .i64) (W.alloc (.cells #[.func (.func g) #[] lb, .func (.func sf) #[] sb] (ρ.t 44))) cb co (one s) := by rw [alloc_eq_grow]; exact holds_grow _ W _ cb co _ hcb hS
  have hc1 : cb < (W.alloc (.cells #[.func (.func g) #[] lb, .func (.func sf) #[] sb] (ρ.t 44))).heap.size := by rw [alloc_eq_grow, size_grow]; omega
  have hne : W.heap.size ≠ cb := by omega
  have step : ∀ (X : World) (t a' b' : Nat), Cnt (W.alloc (.cells #[.func (.func g) #[] lb, .func (.func sf) #[] sb] (ρ.t 44))) cb co t X → a' < d.size → b' < d.size → t < 4611686018427387904 →
      Calls P (ρ.f 39) #[.agg #[.func (.func g) #[] lb, .func (.func sf) #[] sb], .int .i64 a', .int .i64 b', .pointer (some ⟨cb, co, none⟩)] X fun e w' =>
        e = .returned (.tuple #[.int .i64 (order2 lt d a' b' t).1, .int .i64 (order2 lt d a' b' t).2.1]) ∧ Cnt (W.alloc (.cells #[.func (.func g) #[] lb, .func (.func sf) #[] sb] (ρ.t 44))) cb co (order2 lt d a' b' t).2.2 w' := fun X t a' b' hX ha' hb' ht =>
    (order2_g (P := P) (ρ := ρ) { L with } S (cnt_swk hW1 hcb0 hX) a' b' cb co t ha' hb' (cnt_holds hc1 hS1 hX) (cnt_lt hc1 hX) ht).mono
      fun _ _ ⟨he, hc'⟩ => ⟨he, cnt_trans hc1 hX hc'⟩
  have bx : ∀ (kx : Nat) (v : Value), (W.alloc (.cells #[.func (.func g) #[] lb, .func (.func sf) #[] sb] (ρ.t 44))).cell? ⟨W.heap.size, kx, none⟩ = some v → ∀ (X : World) (t : Nat), Cnt (W.alloc (.cells #[.func (.func g) #[] lb, .func (.func sf) #[] sb] (ρ.t 44))) cb co t X → X.cell? ⟨W.heap.size, kx, none⟩ = some v := fun kx v h X t hX =>
    cnt_cell (a := ⟨W.heap.size, kx, none⟩) hX hne (by show W.heap.size < _; rw [alloc_eq_grow, size_grow]; simp) h
  have BX0 := Lib.hid (bx 0 (.func (.func g) #[] lb) (by simp))
  have BX1 := Lib.hid (bx 1 (.func (.func sf) #[] sb) (by simp))
  have ST := Lib.hid step
  have C0 := Lib.hid (cnt_start hS1)
  have step0 := step _ s a b C0.out ha hb (by omega)
  clear hS hS1 hW hW1 bx step S
  go_enter L.f38, BodyGg.n38_ntmps ρ
  go_wp2_with (go_at_fn_of (ρ.f 39) (Value.int .i64 (b : Int)); refine step0.mono ?_; rintro e w1 ⟨rfl, h1⟩; have step1 := ST.out _ _ _ c h1 l1.2 hc (by omega); have x0 := BX0.out _ _ h1; have x1 := BX1.out _ _ h1; replace h1 := Lib.hid h1)
  go_wp2_with (go_at_fn_of (ρ.f 39) (Value.int .i64 (c : Int)); refine step1.mono ?_; rintro e w2 ⟨rfl, h2⟩; have step2 := ST.out _ _ _ _ h2 l1.1 l2.1 (by omega); have y0 := BX0.out _ _ h2; have y1 := BX1.out _ _ h2; replace h2 := Lib.hid h2)
  go_wp2_with (go_at_fn_of (ρ.f 39) (Value.int .i64 ((order2 lt d a b s).1 : Int)); refine step2.mono ?_; rintro e w3 ⟨rfl, h3⟩; replace h3 := Lib.hid h3)
  go_ret
  exact ⟨rfl, cnt_alloc hcb h3.out⟩

set_option maxHeartbeats 1000000 in
set_option maxRecDepth 100000 in
theorem medianAdj_g (L : LaysGg.n37 P ρ) (S : SortIn P g lb sf sb enc k lt blk off d w) (hW : SWK enc k w blk off d W) (a cb co s : Nat) (ha1 : 1 ≤ a) (ha2 : a + 1 < d.size)
    (hS : Holds (Value.int .i64) W cb co (one s)) (hcb0 : w.heap.size ≤ cb) (hcb : cb < W.heap.size) (hs : s + 3 < 4611686018427387904) :
    Calls P (ρ.f 37) #[.agg #[.func (.func g) #[] lb, .func (.func sf) #[] sb], .int .i64 a, .pointer (some ⟨cb, co, none⟩)] W fun e w' =>
      e = .returned (.int .i64 (medianAdjacent lt d a s).1) ∧ Cnt W cb co (medianAdjacent lt d a s).2 w' := by
  have mixed := L.mixed; have t0 := L.t0; have a0 := L.a0; have z0 := L.z0; have v0 := L.v0; have t3 := L.t3; have a3 := L.a3; have z3 := L.z3; have v3 := L.v3; have t4 := L.t4; have a4 := L.a4; have z4 := L.z4; have v4 := L.v4; have t26 := L.t26; have a26 := L.a26; have z26 := L.z26; have v26 := L.v26; have t37 := L.t37; have a37 := L.a37; have z37 := L.z37; have v37 := L.v37; have t44 := L.t44; have a44 := L.a44; have z44 := L.z44; have v44 := L.v44; have t64 := L.t64; have a64 := L.a64; have z64 := L.z64; have v64 := L.v64; have t67 := L.t67; have a67 := L.a67; have z67 := L.z67; have v67 := L.v67
  have u44 := run_underlying L.t44
  have e38 : ∀ args w, (callFunc (ρ.f 38) args).run P w = .ok (.enter (ρ.f 38) args) w := enters_of L.f38 (by kernel_rfl) rfl
  have hsz := S.sz
  have hm := median_g (P := P) (ρ := ρ) { L with } S (hW.alloc (.cells #[.func (.func g) #[] lb, .func (.func sf) #[] sb] (ρ.t 44))) (a - 1) a (a + 1) cb co s (by omega) (by omega) ha2
    (by rw [alloc_eq_grow]; exact holds_grow _ W _ cb co _ hcb hS) hcb0 (by rw [alloc_eq_grow, size_grow]; omega) hs
  rw [show ((a - 1 : Nat) : Int) = (a : Int) - 1 by omega, show ((a + 1 : Nat) : Int) = (a : Int) + 1 by omega] at hm
  clear hS S hW
  go_enter L.f37, BodyGg.n37_ntmps ρ
  go_wp2_with (go_at_fn (ρ.f 38); refine hm.mono ?_; rintro e w' ⟨rfl, h⟩; replace h := Lib.hid h)
  go_ret
  exact ⟨rfl, cnt_alloc hcb h.out⟩
end
end Go.Proofs.YtpfpjcfacbfjaaaGreatDoor
