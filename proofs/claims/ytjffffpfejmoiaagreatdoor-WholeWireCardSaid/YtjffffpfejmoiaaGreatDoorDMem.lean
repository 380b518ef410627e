import Derived.Test.YtjffffpfejmoiaaGreatDoorNEv
namespace Go.Proofs.YtjffffpfejmoiaaGreatDoor
open Go.RowKit Syn Hd Fr Ck
namespace Cn
def DvC (w : World) (P : Nat → Prop) (e : Ev) (xs : List Value) : Prop :=
 ∃ vr vs vt,xs = [.int .i64 (e.kind : Int),.string (str e.m),.string (str e.t),vr,.int .i64 e.st,vs,.string (str e.data),vt] ∧ Rd w 2 vr e.rf.length (prs e.rf) ∧ (0 < e.rf.length → On P vr) ∧ Rd w 2 vs e.sf.length (prs e.sf) ∧ (0 < e.sf.length → On P vs) ∧
  Rd w 2 vt e.tr.length (prs e.tr) ∧ (0 < e.tr.length → On P vt)
theorem rd_kp0 {F : Nat → Prop} {a w : World} {sz n : Nat} {v : Value} {xs : List Value} (h : Rd a sz v n xs) (hF : 0 < n → Off F v) (hk : Kp F a w) : Rd w sz v n xs:=by
 rcases Nat.eq_zero_or_pos n with h0 | h0
 ·obtain ⟨A,cap,e,hc,hl,h⟩:=h
  exact ⟨A,cap,e,hc,hl,fun hn => by omega⟩
 ·exact Rd.kp h (hF h0) hk
section
variable {w w' : World} {P Q G : Nat → Prop} {e : Ev} {l m : List Ev} {xs ys : List Value}
theorem DvC.len (h : DvC w P e xs) : xs.length = 8:=by
 obtain ⟨_,_,_,rfl,-⟩:=h; rfl
theorem DvC.mono (h : DvC w P e xs) (hq : ∀ k,P k → Q k) : DvC w Q e xs:=by
 obtain ⟨a,b,c,h0,h1,h2,h3,h4,h5,h6⟩:=h
 exact ⟨a,b,c,h0,h1,fun h => (h2 h).mono hq,h3,fun h => (h4 h).mono hq,h5,fun h => (h6 h).mono hq⟩
theorem DvC.kp (h : DvC w P e xs) (hk : Kp G w w') (hq : ∀ k,P k → ¬ G k) : DvC w' P e xs:=by
 obtain ⟨a,b,c,h0,h1,h2,h3,h4,h5,h6⟩:=h
 exact ⟨a,b,c,h0,rd_kp0 h1 (fun h => (h2 h).off hq) hk,h2,rd_kp0 h3 (fun h => (h4 h).off hq) hk,h4,rd_kp0 h5 (fun h => (h6 h).off hq) hk,h6⟩
theorem DvC.cells1 (h : DvC w P e xs) : ∀ u ∈ xs,u.oneCell' = true:=by
 obtain ⟨vr,vs,vt,rfl,⟨_,_,rfl,-⟩,-,⟨_,_,rfl,-⟩,-,⟨_,_,rfl,-⟩,-⟩:=h
 intro u hu; simp only [List.mem_cons,List.mem_nil_iff,or_false] at hu
 rcases hu with rfl | rfl | rfl | rfl | rfl | rfl | rfl | rfl <;> rfl
inductive DvsC (w : World) (P : Nat → Prop) : List Ev → List Value → Prop
 | nil : DvsC w P [] []
 | cons {e : Ev} {l : List Ev} {xs ys : List Value} : DvC w P e xs → DvsC w P l ys → DvsC w P (e :: l) (xs ++ ys)
theorem DvsC.len (h : DvsC w P l xs) : xs.length = l.length * 8:=by
 induction h with
 | nil => rfl
 | cons h1 h2 ih => rw [List.length_append,h1.len,ih,List.length_cons]; omega
theorem DvsC.mono (h : DvsC w P l xs) (hq : ∀ k,P k → Q k) : DvsC w Q l xs:=by
 induction h with
 | nil => exact .nil
 | cons h1 h2 ih => exact .cons (h1.mono hq) ih
theorem DvsC.kp (h : DvsC w P l xs) (hk : Kp G w w') (hq : ∀ k,P k → ¬ G k) : DvsC w' P l xs:=by
 induction h with
 | nil => exact .nil
 | cons h1 h2 ih => exact .cons (h1.kp hk hq) ih
theorem DvsC.app (h : DvsC w P l xs) (h2 : DvsC w P m ys) : DvsC w P (l ++ m) (xs ++ ys):=by
 induction h with
 | nil => exact h2
 | cons h1 h3 ih => rw [List.append_assoc]; exact .cons h1 ih
theorem DvsC.one (h : DvC w P e xs) : DvsC w P [e] xs:=by
 have:=DvsC.cons h (.nil (w:=w) (P:=P))
 rwa [List.append_nil] at this
theorem DvsC.snoc (h : DvsC w P l xs) (h2 : DvC w P e ys) : DvsC w P (l ++ [e]) (xs ++ ys):=h.app (.one h2)
theorem DvsC.cells1 (h : DvsC w P l xs) : ∀ u ∈ xs,u.oneCell' = true:=by
 induction h with
 | nil => intro u hu; cases hu
 | cons h1 h2 ih =>
  intro u hu; rcases List.mem_append.1 hu with h | h
  ·exact h1.cells1 u h
  ·exact ih u h
theorem DvsC.at_ (h : DvsC w P l xs) : ∀ {i : Nat} (hi : i < l.length),∃ ys,DvC w P l[i] ys ∧ ∀ j,j < 8 → xs[i * 8 + j]? = ys[j]?:=by
 induction h with
 | nil => intro i hi; cases hi
 | @cons e l a b h1 h2 ih =>
  intro i hi; cases i with
  | zero => exact ⟨a,h1,fun j hj => by rw [Nat.zero_mul,Nat.zero_add,List.getElem?_append_left (by rw [h1.len]; exact hj)]⟩
  | succ i =>
   obtain ⟨ys,e1,e2⟩:=ih (i:=i) (by simpa using hi)
   refine ⟨ys,e1,fun j hj => ?_⟩
   rw [List.getElem?_append_right (by rw [h1.len]; omega),h1.len,show (i + 1) * 8 + j - 8 = i * 8 + j by omega]
   exact e2 j hj
theorem EvsC.at_ (h : EvsC w P l xs) : ∀ {i : Nat} (hi : i < l.length),∃ ys,EvC w P l[i] ys ∧ ∀ j,j < 8 → xs[i * 8 + j]? = ys[j]?:=by
 induction h with
 | nil => intro i hi; cases hi
 | @cons e l a b h1 h2 ih =>
  intro i hi; cases i with
  | zero => exact ⟨a,h1,fun j hj => by rw [Nat.zero_mul,Nat.zero_add,List.getElem?_append_left (by rw [h1.len]; exact hj)]⟩
  | succ i =>
   obtain ⟨ys,e1,e2⟩:=ih (i:=i) (by simpa using hi)
   refine ⟨ys,e1,fun j hj => ?_⟩
   rw [List.getElem?_append_right (by rw [h1.len]; omega),h1.len,show (i + 1) * 8 + j - 8 = i * 8 + j by omega]
   exact e2 j hj
theorem DvsC.last {x : Ev} (h : DvsC w P (l ++ [x]) xs) (d : List UInt8) : DvsC w P (l ++ [{ x with data:=d }]) (xs.set (l.length * 8 + 6) (.string (str d))):=by
 have key : ∀ {l : List Ev} {m : List Ev} {xs : List Value},DvsC w P m xs → m = l ++ [x] → DvsC w P (l ++ [{ x with data:=d }]) (xs.set (l.length * 8 + 6) (.string (str d))):=by
  intro l; induction l with
  | nil =>
   intro m xs h e; cases h with
   | nil => cases e
   | @cons e' l' a b h1 h2 =>
    cases e; cases h2
    obtain ⟨vr,vs,vt,rfl,q⟩:=h1
    rw [List.append_nil]
    exact .one ⟨vr,vs,vt,rfl,q⟩
  | cons y l ih =>
   intro m xs h e; cases h with
   | nil => cases e
   | @cons e' l' a b h1 h2 =>
    cases e; have:=ih h2 rfl
    rw [List.set_append_right _ _ (by rw [h1.len,List.length_cons]; omega),h1.len,show (y :: l).length * 8 + 6 - 8 = l.length * 8 + 6 by rw [List.length_cons]; omega]
    exact .cons h1 this
 exact key h rfl
end
end Cn
end Go.Proofs.YtjffffpfejmoiaaGreatDoor
