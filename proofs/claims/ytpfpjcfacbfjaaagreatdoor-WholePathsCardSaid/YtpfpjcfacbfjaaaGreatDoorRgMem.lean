/-
  Layer 31: rows of points in memory; what a sort leaves; a ring in memory.
-/
import Derived.Test.YtpfpjcfacbfjaaaGreatDoorRgPlain
import Derived.Test.YtpfpjcfacbfjaaaGreatDoorKp
import Derived.Test.YtpfpjcfacbfjaaaGreatDoorGKit
import Derived.Deep.RegionLaw
namespace Go.Proofs.YtpfpjcfacbfjaaaGreatDoor
open Go.RowKit Go.Sort Rg

/-- Block g is m cells of element type e, none frozen. -/
def Shp (w : World) (g : Nat) (e : TypeId) (m : Nat) : Prop := ∃ cur : Array Value, w.heap[g]? = some (.cells cur e (0, 0)) ∧ cur.size = m
section
variable {w w' : World} {g m : Nat} {e : TypeId}
theorem Shp.lt (h : Shp w g e m) : g < w.heap.size := by
  obtain ⟨cur, h, _⟩ := h
  rcases Nat.lt_or_ge g w.heap.size with hlt | hge
  · exact hlt
  · rw [Array.getElem?_eq_none hge] at h; cases h
theorem Shp.frozen (h : Shp w g e m) (i : Nat) : w.frozen? ⟨g, i, none⟩ = false := by
  obtain ⟨cur, h, _⟩ := h
  simp [World.frozen?, h]
theorem Shp.some (h : Shp w g e m) {i : Nat} (hi : i < m) : (w.cell? ⟨g, i, none⟩).isSome = true := by
  obtain ⟨cur, h, rfl⟩ := h
  simp [World.cell?, h, hi]
theorem Shp.drewN (h : Shp w g e m) (n : Nat) : Shp (w.drewN n) g e m := h
theorem Shp.ahead (h : Shp w g e m) (n : Nat) : Shp (Sort.ahead w n) g e m := h
theorem Shp.map (h : Shp w g e m) (b : Nat) (f : Array Value → Array Value) (hf : ∀ c, (f c).size = c.size) : Shp (mapBlock w b f) g e m := by
  obtain ⟨cur, h, rfl⟩ := h
  unfold Shp mapBlock
  by_cases hb : b = g
  · subst hb
    exact ⟨f cur, by simp [Array.getElem?_modify, h, onCells], hf cur⟩
  · exact ⟨cur, by simp [Array.getElem?_modify, hb, h], rfl⟩
theorem Shp.set_ (h : Shp w g e m) (b i : Nat) (v : Value) : Shp (w.setCell ⟨b, i, none⟩ v) g e m := by
  rw [setCell_eq]; exact h.map b _ (fun c => by simp)
theorem Shp.sets (h : Shp w g e m) (b : Nat) : ∀ (vs : List Value) (i : Nat), Shp (w.setCells b i vs) g e m := by
  intro vs
  induction vs generalizing w with
  | nil => intro i; exact h
  | cons v r ih => intro i; rw [World.setCells]; exact ih (h.set_ b i v) (i + 1)
theorem Shp.put {α : Type} [Inhabited α] (h : Shp w g e m) (enc : α → Value) (b off : Nat) (d : Array α) : Shp (putRow enc w b off d) g e m := h.map b _ (fun c => by simp [putCells])
theorem Shp.grow (h : Shp w g e m) (os : Array Obj) : Shp (Sort.grow w os) g e m := by
  have hl := h.lt
  obtain ⟨cur, h, hm⟩ := h
  exact ⟨cur, by unfold Sort.grow; rw [Array.getElem?_append_left hl]; exact h, hm⟩
theorem Shp.below (h : Shp w g e m) (hb : Below w.heap.size w w') : Shp w' g e m := by
  have hl := h.lt
  obtain ⟨cur, h, hm⟩ := h
  exact ⟨cur, (hb.block g hl).trans h, hm⟩
theorem Shp.swk {α : Type} [Inhabited α] {enc : α → List Value} {k b off : Nat} {d : Array α} (h : Shp w g e m) (hs : SWK enc k w b off d w') : Shp w' g e m := by
  obtain ⟨n, os, rfl⟩ := hs
  exact ((h.ahead n).put id b off _).grow os
theorem own_shp {B sz n cap : Nat} {xs : List Value} (h : Own w B e sz (.slice (some ⟨g, 0, none⟩) n cap) n xs) : Shp w g e (cap * sz) ∧ B ≤ g ∧ n ≤ cap ∧ cap ≤ maxLen := by
  rcases h.2 with ⟨h, _⟩ | ⟨g', cap', cur, he, hB, hg, hn, hm, hs, _⟩
  · cases h
  · cases he
    exact ⟨⟨cur, hg, hs⟩, hB, hn, hm⟩
theorem own_at {B sz n cap : Nat} {xs : List Value} (h : Own w B e sz (.slice (some ⟨g, 0, none⟩) n cap) n xs) {j : Nat} {u : Value} (hu : xs[j]? = some u) : w.cell? ⟨g, j, none⟩ = some u := by
  have := World.ownsRow.cells h (g := g) rfl j u hu
  have e : (⟨g, 0, none⟩ : Addr).add j = ⟨g, 0 + j, none⟩ := by unfold Addr.add; split <;> simp_all
  rw [e] at this; simpa using this
theorem own_mk {B sz n cap : Nat} {xs : List Value} (h : Shp w g e (cap * sz)) (hB : B ≤ g) (hn : n ≤ cap) (hm : cap ≤ maxLen) (hl : xs.length = n * sz) (hx : ∀ j u, xs[j]? = some u → w.cell? ⟨g, j, none⟩ = some u) : Own w B e sz (.slice (some ⟨g, 0, none⟩) n cap) n xs := by
  obtain ⟨cur, h, hs⟩ := h
  refine ⟨hl, .inr ⟨g, cap, cur, rfl, hB, h, hn, hm, hs, ?_⟩⟩
  have hle : n * sz ≤ cap * sz := Nat.mul_le_mul_right sz hn
  apply List.ext_getElem?
  intro j
  by_cases hj : j < n * sz
  · rw [List.getElem?_take_of_lt hj]
    have h1 : xs[j]? = some (xs[j]'(by omega)) := List.getElem?_eq_getElem (by omega)
    have := hx j _ h1
    rw [h1]
    have e2 : cur.toList[j]? = cur[j]? := by simp
    rw [e2]
    simpa [World.cell?, h] using this
  · rw [List.getElem?_eq_none (by rw [List.length_take]; simp; omega), List.getElem?_eq_none (by omega)]
theorem own_nil' {B sz : Nat} {v : Value} {n : Nat} {xs : List Value} (h : Own w B e sz v n xs) : (v = .slice none 0 0 ∧ n = 0 ∧ xs = []) ∨ ∃ g cap, v = .slice (some ⟨g, 0, none⟩) n cap := by
  obtain ⟨hl, h | ⟨g, cap, cur, h, _⟩⟩ := h
  · exact .inl ⟨h.1, h.2, List.eq_nil_of_length_eq_zero (by rw [hl, h.2]; simp)⟩
  · exact .inr ⟨g, cap, h⟩
end
theorem blk_new (w : World) (t : TypeId) (cs : Array Value) : Blk (w.alloc (.cells cs t)) w.heap.size t cs := heap_alloc_new w _
theorem own_some {w : World} {B sz n : Nat} {e : TypeId} {v : Value} {xs : List Value} (h : Own w B e sz v n xs) (hn : 0 < n) : ∃ g cap, v = .slice (some ⟨g, 0, none⟩) n cap := by
  rcases own_nil' h with ⟨_, h0, _⟩ | h
  · omega
  · exact h
/-- The cells of points. -/
def encP (p : Pt) : List Value := [.int .u64 p.1, .string (str p.2)]
def pvs (l : List Pt) : List Value := l.flatMap encP
theorem pvs_len (l : List Pt) : (pvs l).length = l.length * 2 := by
  induction l with
  | nil => rfl
  | cons a l ih =>
    have : pvs (a :: l) = encP a ++ pvs l := by simp [pvs]
    rw [this, List.length_append, ih, List.length_cons]; simp [encP]; omega
theorem pvs_snoc (l : List Pt) (p : Pt) : pvs (l ++ [p]) = pvs l ++ [.int .u64 p.1, .string (str p.2)] := by simp [pvs, encP]
theorem pvs_at0 : ∀ {l : List Pt} {k : Nat} (h : k < l.length), (pvs l)[k * 2]? = some (.int .u64 l[k].1)
  | p :: l, 0, _ => by simp [pvs, encP]
  | p :: l, k + 1, h => by
    have := pvs_at0 (l := l) (k := k) (by simpa using h)
    rw [show (k + 1) * 2 = k * 2 + 1 + 1 from by omega]
    simpa [pvs, encP] using this
theorem pvs_at1 : ∀ {l : List Pt} {k : Nat} (h : k < l.length), (pvs l)[k * 2 + 1]? = some (.string (str l[k].2))
  | p :: l, 0, _ => by simp [pvs, encP]
  | p :: l, k + 1, h => by
    have := pvs_at1 (l := l) (k := k) (by simpa using h)
    rw [show (k + 1) * 2 + 1 = k * 2 + 1 + 1 + 1 from by omega]
    simpa [pvs, encP] using this
theorem pvs_one (l : List Pt) : ∀ v ∈ pvs l, v.oneCell' = true := by
  intro v hv
  unfold pvs at hv
  rw [List.mem_flatMap] at hv
  obtain ⟨p, _, hp⟩ := hv
  unfold encP at hp
  rcases List.mem_cons.1 hp with rfl | hp
  · rfl
  · rw [List.mem_singleton] at hp; subst hp; rfl
/-- A fact of each point's two cells is one of each cell. -/
theorem pvs_all {l : List Pt} {f : Nat → Value → Prop} (h0 : ∀ k, (hk : k < l.length) → f (k * 2) (.int .u64 l[k].1)) (h1 : ∀ k, (hk : k < l.length) → f (k * 2 + 1) (.string (str l[k].2))) : ∀ j u, (pvs l)[j]? = some u → f j u := by
  intro j u hu
  have hj : j < l.length * 2 := by
    have := (List.getElem?_eq_some_iff.1 hu).1
    rwa [pvs_len] at this
  rcases Nat.mod_two_eq_zero_or_one j with hm | hm
  · obtain ⟨k, rfl⟩ : ∃ k, j = k * 2 := ⟨j / 2, by omega⟩
    rw [pvs_at0 (show k < l.length by omega)] at hu
    cases hu
    exact h0 k (by omega)
  · obtain ⟨k, rfl⟩ : ∃ k, j = k * 2 + 1 := ⟨j / 2, by omega⟩
    rw [pvs_at1 (show k < l.length by omega)] at hu
    cases hu
    exact h1 k (by omega)
theorem holds_pts {w : World} {g : Nat} {e : TypeId} {m : Nat} {Q : List Pt} (hs : Shp w g e m) (h : ∀ j u, (pvs Q)[j]? = some u → w.cell? ⟨g, j, none⟩ = some u) : HoldsK encP 2 w g 0 Q.toArray := by
  intro t ht
  have ht' : t < Q.length * 2 := by simpa using ht
  rw [get_flatK encP 2 Q.toArray t (by simpa using ht')]
  refine ⟨?_, hs.frozen _⟩
  rcases Nat.mod_two_eq_zero_or_one t with hm | hm
  · obtain ⟨k, rfl⟩ : ∃ k, t = k * 2 := ⟨t / 2, by omega⟩
    have hk : k < Q.length := by omega
    have := h _ _ (pvs_at0 hk)
    rw [show 0 + k * 2 = k * 2 by omega, this, show k * 2 / 2 = k by omega, show k * 2 % 2 = 0 by omega]
    simp [encP, hk]
  · obtain ⟨k, rfl⟩ : ∃ k, t = k * 2 + 1 := ⟨t / 2, by omega⟩
    have hk : k < Q.length := by omega
    have := h _ _ (pvs_at1 hk)
    rw [show 0 + (k * 2 + 1) = k * 2 + 1 by omega, this, show (k * 2 + 1) / 2 = k by omega, show (k * 2 + 1) % 2 = 1 by omega]
    simp [encP, hk]
theorem pts_held {w : World} {g : Nat} {d : Array Pt} (h : HoldsK encP 2 w g 0 d) : ∀ j u, (pvs d.toList)[j]? = some u → w.cell? ⟨g, j, none⟩ = some u := by
  refine pvs_all (fun k hk => ?_) (fun k hk => ?_)
  · have := (h.cell (i := k) (c := 0) (by simpa using hk) (by omega)).1
    rw [show 0 + k * 2 + 0 = k * 2 by omega] at this
    rw [this, getElem!_pos d k (by simpa using hk)]; rfl
  · have := (h.cell (i := k) (c := 1) (by simpa using hk) (by omega)).1
    rw [show 0 + k * 2 + 1 = k * 2 + 1 by omega] at this
    rw [this, getElem!_pos d k (by simpa using hk)]; rfl
/-- A sort's world, told in the words of what is kept. -/
theorem swk_kp {α : Type} [Inhabited α] {enc : α → List Value} {k g off : Nat} {d : Array α} {w w' : World} (hs : SWK enc k w g off d w') : Kp (fun b => b = g) w w' := by
  obtain ⟨n, os, rfl⟩ := hs
  unfold sortWorldK putRowK putRow mapBlock Sort.grow Sort.ahead
  refine ⟨rfl, rfl, rfl, by simp, fun b hb hne => ?_⟩
  simp only
  rw [Array.getElem?_append_left (by simpa using hb), Array.getElem?_modify, if_neg (fun e => hne e.symm)]
theorem grown_refl (w : World) : Grown w w := ⟨0, #[], by simp [grow_empty, World.drewN]⟩
theorem grown_drewN {w w' : World} (h : Grown w w') (n : Nat) : Grown w (w'.drewN n) := by
  obtain ⟨q, os, rfl⟩ := h
  exact ⟨q + n, os, by rw [← World.drewN_drewN]; rfl⟩
theorem grown_alloc {w w' : World} (h : Grown w w') (o : Obj) : Grown w (w'.alloc o) := by
  obtain ⟨q, os, rfl⟩ := h
  exact ⟨q, os ++ #[o], by rw [alloc_eq_grow, grow_grow]⟩
theorem grown_set {w w' : World} (h : Grown w w') {b : Nat} (hb : w.heap.size ≤ b) (i : Nat) (v : Value) : Grown w (w'.setCell ⟨b, i, none⟩ v) := by
  obtain ⟨q, os, rfl⟩ := h
  exact ⟨q, _, by rw [setCell_eq, mapBlock_grow_new (w.drewN q) _ _ _ hb]⟩
theorem grown_trans {a w w' : World} (h : Grown a w) (h' : Grown w w') : Grown a w' := by
  obtain ⟨q, os, rfl⟩ := h
  obtain ⟨q', os', rfl⟩ := h'
  refine ⟨q + q', os ++ os', ?_⟩
  rw [← grow_grow, ← World.drewN_drewN]; rfl
theorem grown_below {w w' : World} (h : Grown w w') : Below w.heap.size w w' := by
  obtain ⟨q, os, rfl⟩ := h
  exact ⟨rfl, rfl, rfl, by rw [size_grow]; exact Nat.le_add_right _ _, fun k hk => by unfold Sort.grow; exact Array.getElem?_append_left hk⟩
section
variable {P : Program}
/-- append of the cells of a block onto an owned row, at a step of a region that draws its order. -/
theorem stepR_blk {ops : Array Oper} {o : Oper} {a : Act} {K : Act → World → Prop} {Q : Exit → Act → World → Prop} {E : Prop} {w : World} (t e : TypeId) (z : Value) (size bytes : Nat) (s x : Operand)
    (hgd : o.guard = none) (ho : o.op = .call { callee := .builtin .append, args := #[s, x], argTypes := #[t, t] })
    (ht : P.underlying t = some (.slice e)) (hi : (P.info? e).map (fun i => (i.zero, i.size, i.bytes)) = some (some z, size, bytes)) (hzs : z.cells.size = size) (hsz : 0 < size) (hby : bytes ≤ 1000)
    {B n m c g : Nat} {v : Value} {xs : List Value} {news : Array Value} (hs : a.eval s = v) (hown : Own w B e size v n xs) (hx : a.eval x = .slice (some ⟨g, 0, none⟩) m c) (hR : Blk w g e news) (hl : news.size = m * size)
    (h1 : ∀ u ∈ news.toList, u.oneCell' = true) (hn : n + m ≤ 10000000000) (hB : B ≤ w.heap.size)
    (h : ∀ v' w', Own w' B e size v' (n + m) (xs ++ news.toList) → w.grownBy w' v.ownBlock → (v'.ownBlock = v.ownBlock ∨ v'.ownBlock = some w.heap.size) → K (a.put o.dst v') w') :
    if Region.wanted o (yielded ops a.tmps) = true then Oper.wp P o a w K Q else E := by
  have hwt : Region.wanted o (yielded ops a.tmps) = true := by simp [Region.wanted, hgd]
  rw [if_pos hwt]
  cases hP : P.info? e with
  | none => rw [hP] at hi; cases hi
  | some i =>
    rw [hP] at hi
    simp only [Option.map_some, Option.some.injEq, Prod.mk.injEq] at hi
    obtain ⟨hz, hsize, hbytes⟩ := hi
    have hbb : (n + m) * bytes ≤ 140737488355328 := Nat.le_trans (Nat.mul_le_mul hn hby) (by decide)
    have hcel : ∀ j u, news.toList[j]? = some u → w.cell? ((⟨g, 0, none⟩ : Addr).add j) = some u := fun j u hu => by
      have hadd : (⟨g, 0, none⟩ : Addr).add j = ⟨g, 0 + j, none⟩ := by unfold Addr.add; split <;> simp_all
      rw [hadd, Nat.zero_add, hR.cell j]; simpa using hu
    obtain ⟨v', w', hr, h2, h3, h4, h5⟩ := run_append_own_at (P := P) w B t o.type e i z size bytes ht hP hz hsize hbytes hzs hsz v n xs hown ⟨g, 0, none⟩ m c news.toList (by simpa using hl) hcel h1 (by unfold maxLen; omega) hbb hB
    unfold Oper.wp execOp
    simp only [ho, resolve, invoke, builtin, Sem.run_bind, Sem.run_pure, Result.andThen_ok, List.map_toArray, List.map_cons, List.map_nil, hs, hx, hr]
    exact h v' w' h2 h3 h5
/-- A call of a function under its contract, at a step of a region that draws its order. -/
theorem stepR_call {ops : Array Oper} {o : Oper} {a : Act} {K : Act → World → Prop} {Q : Exit → Act → World → Prop} {E : Prop} {w : World} (f : FuncId) (xs : Array Operand) (ts : Array TypeId)
    (hgd : o.guard = none) (ho : o.op = .call { callee := .value (.func f), args := xs, argTypes := ts }) (eg : ∀ args w, (callFunc f args).run P w = .ok (.enter f args) w)
    {args : Array Value} (ha : xs.map a.eval = args) {R : Ending → World → Prop} (hc : Calls P f args w R) (h : ∀ e w', R e w' → ∃ v, e = .returned v ∧ K (a.put o.dst v) w') :
    if Region.wanted o (yielded ops a.tmps) = true then Oper.wp P o a w K Q else E := by
  have hwt : Region.wanted o (yielded ops a.tmps) = true := by simp [Region.wanted, hgd]
  rw [if_pos hwt]
  have hrun : (execOp a.eval o).run P w = .ok (.enter f args) w := by
    unfold execOp
    simp only [ho, resolve, Deferred.ofValue, Act.eval, invoke, Sem.run_bind, Sem.run_pure, Result.andThen_ok]
    rw [← ha]
    simpa using eg _ _
  unfold Oper.wp
  rw [hrun, Oper.upon_enter]
  refine hc.mono ?_
  rintro e w' hR
  obtain ⟨v, rfl, hk⟩ := h e w' hR
  exact hk
end
end Go.Proofs.YtpfpjcfacbfjaaaGreatDoor
