import Derived.Test.YtjffffpfejmoiaaGreatDoorNMem
namespace Go.Proofs.YtjffffpfejmoiaaGreatDoor
open Go.RowKit Syn Ck
theorem infoEv : (Tryz.prog.info? 77).map (fun i => (i.zero,i.size,i.bytes)) = some (some (.agg #[.int .i64 0,.string ⟨#[]⟩,.string ⟨#[]⟩,.slice none 0 0,.int .i64 0,.slice none 0 0,.slice none 0 0,.slice none 0 0]),8,144):=by kernel_rfl
theorem rd_one8 (w : World) (t : TypeId) (u0 u1 u2 u3 u4 u5 u6 u7 : Value) : Rd (w.alloc (.cells #[u0,u1,u2,u3,u4,u5,u6,u7] t)) 8 (.slice (some ⟨w.heap.size,0,none⟩) 1 1) 1 [u0,u1,u2,u3,u4,u5,u6,u7]:=by
 refine ⟨_,_,rfl,Nat.le_refl _,rfl,fun _ => ⟨w.heap.size,0,rfl,by rw [alloc_size']; omega,fun j u hu => ?_⟩⟩
 rw [Nat.zero_add,(Blk.new w t #[u0,u1,u2,u3,u4,u5,u6,u7]).cell j]
 have e : ([u0,u1,u2,u3,u4,u5,u6,u7].toArray)[j]? = [u0,u1,u2,u3,u4,u5,u6,u7][j]?:=List.getElem?_toArray
 exact e.trans hu
theorem push_ev {ops : Array Oper} {rest : List Oper} {o : Oper} {a : Act} {Q : Exit → Act → World → Prop} {w : World} (s x : Operand)
  (hgd : o.guard = none) (ho : o.op = .call { callee:=.builtin .append,args:=#[s,x],argTypes:=#[36,36] })
  {B n : Nat} {v u0 u1 u2 u3 u4 u5 u6 u7 : Value} {xs : List Value} (hs : a.eval s = v) (hown : Own w B 77 8 v n xs) (hx : a.eval x = .slice (some ⟨w.heap.size,0,none⟩) 1 1)
  (h1 : ∀ u ∈ [u0,u1,u2,u3,u4,u5,u6,u7],u.oneCell' = true) (hn : n < 10000000) (hB : B ≤ w.heap.size)
  (h : ∀ v' w',Own w' B 77 8 v' (n + 1) (xs ++ [u0,u1,u2,u3,u4,u5,u6,u7]) → (w.alloc (.cells #[u0,u1,u2,u3,u4,u5,u6,u7] 77)).grownBy w' v.ownBlock → (v'.ownBlock = v.ownBlock ∨ v'.ownBlock = some (w.heap.size + 1)) → wpList Tryz.prog ops Q rest (a.put o.dst v') w') :
  wpList Tryz.prog ops Q (o :: rest) a (w.alloc (.cells #[u0,u1,u2,u3,u4,u5,u6,u7] 77)):=by
 refine step_pushR 36 77 _ 8 144 s x hgd ho Tryz.underlying36 infoEv rfl (by decide) (by decide) hs (hown.alloc _) hx (rd_one8 w _ u0 u1 u2 u3 u4 u5 u6 u7) h1 (by omega) (by rw [alloc_size']; omega) ?_
 intro v' w' ho' hg hat; exact h v' w' ho' hg (by rwa [alloc_size'] at hat)
theorem push_evs {ops : Array Oper} {rest : List Oper} {o : Oper} {a : Act} {Q : Exit → Act → World → Prop} {w : World} (s x : Operand)
  (hgd : o.guard = none) (ho : o.op = .call { callee:=.builtin .append,args:=#[s,x],argTypes:=#[36,36] })
  {B n m c : Nat} {v : Value} {xs news : List Value} {A : Option Addr} (hs : a.eval s = v) (hown : Own w B 77 8 v n xs) (hx : a.eval x = .slice A m c) (hR : Rd w 8 (.slice A m c) m news)
  (h1 : ∀ u ∈ news,u.oneCell' = true) (hn : n + m < 10000000) (hB : B ≤ w.heap.size)
  (h : ∀ v' w',Own w' B 77 8 v' (n + m) (xs ++ news) → w.grownBy w' v.ownBlock → (v'.ownBlock = v.ownBlock ∨ v'.ownBlock = some w.heap.size) → wpList Tryz.prog ops Q rest (a.put o.dst v') w') : wpList Tryz.prog ops Q (o :: rest) a w :=
 step_pushR 36 77 _ 8 144 s x hgd ho Tryz.underlying36 infoEv rfl (by decide) (by decide) hs hown hx hR h1 (by omega) hB h
theorem own_kpg {w w' : World} {B sz n : Nat} {e : TypeId} {v : Value} {xs : List Value} {row : Option Nat} (h : Own w B e sz v n xs) (hg : w.grownBy w' row) (hr : ∀ k,v.ownBlock = some k → row ≠ some k) : Own w' B e sz v n xs:=by
 obtain ⟨hl,h⟩:=h
 refine ⟨hl,?_⟩
 rcases h with h | ⟨g,cap,cur,e1,h1,hgb,h2⟩
 ·exact .inl h
 ·exact .inr ⟨g,cap,cur,e1,h1,(Blk.grown8 (w:=w) (t:=e) (cs:=cur) hgb hg (hr g (by rw [e1]; rfl))),h2⟩
namespace Cn
theorem evC_data {w : World} {P : Nat → Prop} {d : List UInt8} {v : Value} (h : Rd w 1 v d.length (u8s d)) (hP : On P v) : EvC w P (evData d) [.int .i64 2,.string ⟨#[]⟩,.string ⟨#[]⟩,.slice none 0 0,.int .i64 0,.slice none 0 0,v,.slice none 0 0] :=
 ⟨_,_,v,_,rfl,Rd.nil w 2,On.nil P,Rd.nil w 2,On.nil P,h,hP,Rd.nil w 2,On.nil P⟩
theorem evC_end {w : World} {P : Nat → Prop} {L : Flds} {v : Value} (h : Rd w 2 v L.length (prs L)) (hP : On P v) : EvC w P (evEnd L) [.int .i64 3,.string ⟨#[]⟩,.string ⟨#[]⟩,.slice none 0 0,.int .i64 0,.slice none 0 0,.slice none 0 0,v] :=
 ⟨_,_,_,v,rfl,Rd.nil w 2,On.nil P,Rd.nil w 2,On.nil P,Rd.nil w 1,On.nil P,h,hP⟩
theorem EvC.cells1 {w : World} {P : Nat → Prop} {e : Ev} {xs : List Value} (h : EvC w P e xs) : ∀ u ∈ xs,u.oneCell' = true:=by
 obtain ⟨vr,vs,vd,vt,rfl,⟨_,_,rfl,-⟩,-,⟨_,_,rfl,-⟩,-,⟨_,_,rfl,-⟩,-,⟨_,_,rfl,-⟩,-⟩:=h
 intro u hu; simp only [List.mem_cons,List.mem_nil_iff,or_false] at hu
 rcases hu with rfl | rfl | rfl | rfl | rfl | rfl | rfl | rfl <;> rfl
theorem EvsC.cells1 {w : World} {P : Nat → Prop} {l : List Ev} {xs : List Value} (h : EvsC w P l xs) : ∀ u ∈ xs,u.oneCell' = true:=by
 induction h with
 | nil => intro u hu; cases hu
 | cons h1 h2 ih =>
  intro u hu; rcases List.mem_append.1 hu with h | h
  ·exact h1.cells1 u h
  ·exact ih u h
end Cn
end Go.Proofs.YtjffffpfejmoiaaGreatDoor
