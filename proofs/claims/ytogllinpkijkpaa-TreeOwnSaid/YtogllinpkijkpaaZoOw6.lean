/-
  TreeOwn: what its code needs, of any programs that raw numbers give.
-/
import Derived.Test.YtogllinpkijkpaaZoPlProg2
import Derived.KernelRfl
namespace Go.Su.Ytogllinpkijkpaa
open Go.Mx Go.Proofs
set_option linter.unusedVariables false
set_option linter.unusedSimpArgs false
set_option maxHeartbeats 4000000
theorem listed_ev : (∀ s : Stmt,(∀ out : List Stmt,out.length + szSl s.Body ≤ 1000000 → Ev (fun n=>tree_listed_o n out s.Body) (out ++ flat s.Body)) ∧ ∀ out : List Stmt,out.length + szSl s.Else ≤ 1000000 → Ev (fun n=>tree_listed_o n out s.Else) (out ++ flat s.Else)) ∧
  ∀ l,∀ (a0 out : List Stmt) (pre : List Stmt),out.length + szSl l ≤ 1000000 → (pre ++ l).length ≤ 1000000 → Ev (fun n=>tree_listed_o_L0 n a0 (pre ++ l) out pre.length) (out ++ flat l):=by
 refine stmt_ind ?_ ?_ ?_
 ·intro k w v m e b l a ihb ihl
  have lb:=len_Sl b
  have ll:=len_Sl l
  exact ⟨fun out h=>Ev.step (Ev.of_eq (fun n=>by simp only [tree_listed_o]; rfl) (ihb out out [] (by omega) (by simp only [List.nil_append]; simp only at h; omega))),
   fun out h=>Ev.step (Ev.of_eq (fun n=>by simp only [tree_listed_o]; rfl) (ihl out out [] (by omega) (by simp only [List.nil_append]; simp only at h; omega)))⟩
 ·intro a0 out pre h1 h2
  refine Ev.step (Ev.of_eq (g:=fun n=>some out) (fun n=>?_) (by simpa [flat] using Ev.ret out))
  simp only [tree_listed_o_L0,List.append_nil,ix_ge,cond_false]
 ·intro x r ihx ihr a0 out pre h1 h2
  rw [szSl] at h1
  have hp : pre.length ≤ 1000000:=by simp at h2; omega
  have f1:=flat_len.1 x
  rw [fl1_eq] at f1
  simp only [List.length_cons,List.length_append] at f1
  have hx : 1 + (flat x.Body).length + szSl x.Else ≤ szS x ∧ 1 + szSl x.Body ≤ szS x:=by
   cases x with
   | mk k w v m e b l a =>
    have:=flat_len.2 b
    simp only [szS]
    omega
  have hbe : Ev (fun n=>tree_listed_o n (out ++ [x]) x.Body) (out ++ [x] ++ flat x.Body) ∧ Ev (fun n=>tree_listed_o n (out ++ [x] ++ flat x.Body) x.Else) (out ++ [x] ++ flat x.Body ++ flat x.Else):=by
   exact ⟨ihx.1 _ (by simp only [List.length_append,List.length_singleton]; omega),ihx.2 _ (by simp only [List.length_append,List.length_singleton]; omega)⟩
  refine Ev.step (Ev.of_eq (g:=fun n=>(tree_listed_o n (out ++ [x]) x.Body).bind fun r5=>(tree_listed_o n r5 x.Else).bind fun r6=>tree_listed_o_L0 n a0 ((pre ++ [x]) ++ r) r6 ((pre ++ [x]).length)) (fun n=>?_) (Ev.bind hbe.1 (Ev.bind hbe.2 ?_)))
  ·simp only [tree_listed_o_L0,ix_lt,cond_true,ix_get,Option.bind_some,room32 out.length (by omega) x]
   rw [ix_wr pre x (by omega),← ix_cons]
  ·have:=ihr a0 (out ++ [x] ++ flat x.Body ++ flat x.Else) (pre ++ [x]) (by simp only [List.length_append,List.length_singleton]; omega) (by rw [← ix_cons]; exact h2)
   rw [flat,fl1_eq]
   simpa using this
theorem listedo_ev (l out : List Stmt) (h : out.length + szSl l ≤ 1000000) : Ev (fun n=>tree_listed_o n out l) (out ++ flat l):=by
 have:=len_Sl l
 exact Ev.step (Ev.of_eq (fun n=>by simp only [tree_listed_o]; rfl) (listed_ev.2 l out out [] h (by simp only [List.nil_append]; omega)))
theorem List_L1 (D : List Decl) (ts : List (List Stmt)) (i2 : Int) (all : List Stmt) (ha : all.length ≤ 1000000) (hz : ∀ s ∈ all,szS s ≤ 1000000) : ∀ l pre,all = pre ++ l → Ev (fun n=>tree_List_L1 n ⟨D,ts⟩ all i2 all pre.length) all
 | [],pre,e=>by
  subst e
  refine Ev.step (Ev.of_eq (g:=fun n=>some (pre ++ [])) (fun n=>?_) (Ev.ret _))
  simp only [tree_List_L1,List.append_nil,ix_ge,cond_false,Clip_Stmt,sub_all,Option.bind_some]
 | x :: r,pre,e=>by
  have hp : pre.length ≤ 1000000:=by rw [e] at ha; simp at ha; omega
  refine Ev.step (Ev.of_eq (g:=fun n=>(tree_copyStmt n x).bind fun r8=>tree_List_L1 n ⟨D,ts⟩ all i2 (all.set (pre.length : Int).toNat r8) ((pre ++ [x]).length)) (fun n=>?_) (Ev.bind (copyS_ev.1 x (hz x (by rw [e]; simp))) ?_))
  ·have l1 : decide ((pre.length : Int) < ln all) = true:=by rw [e]; exact ix_lt _ _ _
   have l2 : idx all (pre.length : Int) = some x:=by rw [e]; exact ix_get _ _ _
   simp only [tree_List_L1,l1,l2,cond_true,Option.bind_some]
   rw [ix_wr pre x (by omega)]
  ·have : all.set (pre.length : Int).toNat x = all:=by rw [e]; exact set_self _ _ _
   rw [this]
   exact List_L1 D ts i2 all ha hz r (pre ++ [x]) (by rw [e]; exact ix_cons _ _ _)
theorem List_L0 (D : List Decl) (ts : List (List Stmt)) (hz : szT ts ≤ 1000000) : ∀ (l pre : List (List Stmt)) (acc : List Stmt),ts = pre ++ l → acc ++ flats l = flats ts → acc.length + szT l ≤ 1000000 → Ev (fun n=>tree_List_L0 n ⟨D,ts⟩ acc pre.length) (flats ts)
 | [],pre,acc,e,ea,h=>by
  have hts:=len_T ts
  rw [flats,List.append_nil] at ea
  subst ea
  rw [List.append_nil] at e
  refine Ev.step (Ev.of_eq (g:=fun n=>tree_List_L1 n ⟨D,ts⟩ (flats ts) pre.length (flats ts) 0) (fun n=>?_) ?_)
  ·have l1 : decide ((pre.length : Int) < ln ts) = false:=by rw [e]; exact ix_ge _
   simp only [tree_List_L0,l1,cond_false]
  ·exact List_L1 D ts pre.length (flats ts) (by omega) (fun s hs=>by have:=sz_flats ts s hs; omega) (flats ts) [] rfl
 | t :: r,pre,acc,e,ea,h=>by
  have hts:=len_T ts
  rw [szT] at h
  have hp : pre.length + 1 ≤ ts.length:=by rw [e]; simp
  refine Ev.step (Ev.of_eq (g:=fun n=>(tree_listed_o n acc t).bind fun r4=>tree_List_L0 n ⟨D,ts⟩ r4 ((pre ++ [t]).length)) (fun n=>?_) (Ev.bind (listedo_ev t acc (by omega)) ?_))
  ·have l1 : decide ((pre.length : Int) < ln ts) = true:=by rw [e]; exact ix_lt _ _ _
   have l2 : idx ts (pre.length : Int) = some t:=by rw [e]; exact ix_get _ _ _
   simp only [tree_List_L0,l1,l2,cond_true,Option.bind_some]
   rw [ix_wr pre t (by omega)]
  ·have:=flat_len.2 t
   exact List_L0 D ts hz r (pre ++ [t]) (acc ++ flat t) (by rw [e]; exact ix_cons _ _ _) (by rw [← ea,flats]; simp) (by rw [List.length_append]; omega)
theorem List_ev (D : List Decl) (ts : List (List Stmt)) (hz : szT ts ≤ 1000000) : Ev (fun n=>tree_List n ⟨D,ts⟩) (flats ts) :=
 Ev.of_eq (fun n=>by simp only [tree_List]; rfl) (List_L0 D ts hz ts [] [] rfl rfl (by simpa using hz))
end Go.Su.Ytogllinpkijkpaa
namespace Go.Su.Ytogllinpkijkpaa
open Go.Mx Go.Proofs
set_option linter.unusedVariables false
set_option linter.unusedSimpArgs false
set_option maxHeartbeats 4000000
mutual
def eqE : Expr → Expr → Bool
 | ⟨k,n,w,l⟩,e=>(k == e.Kind) && ((n == e.N) && (bytesEq w e.Name && eqEl l e.Of))
def eqEl : List Expr → List Expr → Bool
 | [],[]=>true
 | x :: r,y :: q=>eqE x y && eqEl r q
 | _,_=>false
end
mutual
def eqS : Stmt → Stmt → Bool
 | ⟨k,w,v,m,e,b,l,_⟩,s=>(k == s.Kind) && (bytesEq w s.Name && (bytesEq v s.Other && ((m == s.N) && (eqE e s.E && (eqSl b s.Body && eqSl l s.Else)))))
def eqSl : List Stmt → List Stmt → Bool
 | [],[]=>true
 | x :: r,y :: q=>eqS x y && eqSl r q
 | _,_=>false
end
theorem bytesEq_self (a : ByteArray) : bytesEq a a = true:=by rw [bytesEq_eq]; simp
theorem eqE_refl : (∀ e,eqE e e = true) ∧ ∀ l,eqEl l l = true:=by
 refine expr_ind ?_ (by simp [eqEl]) ?_
 ·intro k n w l h
  rw [eqE]; simp [bytesEq_self,h]
 ·intro e r h1 h2
  rw [eqEl,h1,h2]; rfl
theorem eqS_refl : (∀ e,eqS e e = true) ∧ ∀ l,eqSl l l = true:=by
 refine stmt_ind ?_ (by simp [eqSl]) ?_
 ·intro k w v m e b l a h1 h2
  rw [eqS]; simp [bytesEq_self,eqE_refl.1,h1,h2]
 ·intro e r h1 h2
  rw [eqSl,h1,h2]; rfl
theorem eqEl_len : ∀ l q : List Expr,l.length ≠ q.length → eqEl l q = false
 | [],[],h=>absurd rfl h
 | [],_ :: _,_=>by simp [eqEl]
 | _ :: _,[],_=>by simp [eqEl]
 | x :: r,y :: q,h=>by rw [eqEl,eqEl_len r q (by simpa using h),Bool.and_false]
theorem eqSl_len : ∀ l q : List Stmt,l.length ≠ q.length → eqSl l q = false
 | [],[],h=>absurd rfl h
 | [],_ :: _,_=>by simp [eqSl]
 | _ :: _,[],_=>by simp [eqSl]
 | x :: r,y :: q,h=>by rw [eqSl,eqSl_len r q (by simpa using h),Bool.and_false]
theorem bne_len {α β : Type} (l : List α) (q : List β) : (ln l != ln q) = !decide (l.length = q.length):=by
 by_cases h : l.length = q.length
 ·have : ln l = ln q:=by show (l.length : Int) = q.length; omega
  rw [this]; simp [h]
 ·have : ln l ≠ ln q:=by show (l.length : Int) ≠ q.length; omega
  simp [h,this]
theorem rsameE_ev : (∀ e,szE e ≤ 1000000 → ∀ f,Ev (fun n=>ref1_SameExpr n e f) (eqE e f)) ∧
  ∀ l,∀ (q : List Expr) (k m : Int) (w : ByteArray) (k' m' : Int) (w' : ByteArray) (b : Bool) (pre pre' : List Expr),(pre ++ l).length ≤ 1000000 → szEl l ≤ 1000000 → pre.length = pre'.length → l.length = q.length →
   Ev (fun n=>ref1_SameExpr_L0 n ⟨k,m,w,pre ++ l⟩ ⟨k',m',w',pre' ++ q⟩ b pre.length) (eqEl l q):=by
 refine expr_ind ?_ ?_ ?_
 ·intro k m w l ih h f
  obtain ⟨k',m',w',l'⟩:=f
  rw [szE] at h
  have hl:=len_El l
  rw [eqE]
  simp only
  cases h1 : (k == k')
  ·exact Ev.step (Ev.of_eq (g:=fun n=>some false) (fun n=>by simp only [ref1_SameExpr,jn,bne,h1,Bool.not_false,cond_true]) (Ev.ret _))
  cases h2 : (m == m')
  ·exact Ev.step (Ev.of_eq (g:=fun n=>some false) (fun n=>by simp only [ref1_SameExpr,jn,bne,h1,h2,Bool.not_false,Bool.not_true,cond_true,cond_false]) (Ev.ret _))
  cases h3 : bytesEq w w'
  ·exact Ev.step (Ev.of_eq (g:=fun n=>some false) (fun n=>by simp only [ref1_SameExpr,jn,bne,h1,h2,h3,Bool.not_false,Bool.not_true,cond_true,cond_false]) (Ev.ret _))
  by_cases h4 : l.length = l'.length
  ·have h5 : (ln l != ln l') = false:=by rw [bne_len]; simp [h4]
   simp only [Bool.true_and]
   refine Ev.step (Ev.of_eq (g:=fun n=>ref1_SameExpr_L0 n ⟨k,m,w,l⟩ ⟨k',m',w',l'⟩ false 0) (fun n=>?_) (ih l' k m w k' m' w' false [] [] (by simp; omega) (by omega) rfl h4))
   simp only [ref1_SameExpr,jn,bne,h1,h2,h3,Bool.not_true,cond_false]
   simp only [bne] at h5
   rw [h5]; rfl
  ·have h5 : (ln l != ln l') = true:=by rw [bne_len]; simp [h4]
   rw [eqEl_len l l' h4]
   refine Ev.step (Ev.of_eq (g:=fun n=>some false) (fun n=>?_) (by simpa using Ev.ret false))
   simp only [ref1_SameExpr,jn,bne,h1,h2,h3,Bool.not_true,cond_false]
   simp only [bne] at h5
   rw [h5]; rfl
 ·intro q k m w k' m' w' b pre pre' h1 h2 h3 h4
  have : q = []:=List.eq_nil_of_length_eq_zero h4.symm
  subst this
  refine Ev.step (Ev.of_eq (g:=fun n=>some true) (fun n=>?_) (by simpa [eqEl] using Ev.ret true))
  simp only [ref1_SameExpr_L0,List.append_nil,ix_ge,cond_false]
 ·intro x r ihx ihr q k m w k' m' w' b pre pre' h1 h2 h3 h4
  cases q with
  | nil=>simp at h4
  | cons y q =>
   rw [szEl] at h2
   have hp : pre.length ≤ 1000000:=by simp at h1; omega
   refine Ev.step (Ev.of_eq (g:=fun n=>(ref1_SameExpr n x y).bind fun r6=>bif !r6 then some false else ref1_SameExpr_L0 n ⟨k,m,w,(pre ++ [x]) ++ r⟩ ⟨k',m',w',(pre' ++ [y]) ++ q⟩ b ((pre ++ [x]).length)) (fun n=>?_) (Ev.bind (ihx (by omega) y) ?_))
   ·have l2 : idx (pre' ++ y :: q) (pre.length : Int) = some y:=by rw [h3]; exact ix_get _ _ _
    simp only [ref1_SameExpr_L0,ix_lt,ix_get,l2,cond_true,Option.bind_some]
    rw [ix_wr pre x (by omega),← ix_cons,← ix_cons]
   ·rw [eqEl]
    cases h5 : eqE x y
    ·exact Ev.ret _
    ·simp only [Bool.not_true,cond_false,Bool.true_and]
     exact ihr q k m w k' m' w' b (pre ++ [x]) (pre' ++ [y]) (by rw [← ix_cons]; exact h1) (by omega) (by simp [h3]) (by simpa using h4)
theorem rsameS_ev : (∀ s,szS s ≤ 1000000 → (∀ q,Ev (fun n=>ref1_SameBlock n s.Body q) (eqSl s.Body q)) ∧ ∀ q,Ev (fun n=>ref1_SameBlock n s.Else q) (eqSl s.Else q)) ∧
  ∀ l,∀ (q : List Stmt) (pre pre' : List Stmt),(pre ++ l).length ≤ 1000000 → szSl l ≤ 1000000 → pre.length = pre'.length → l.length = q.length →
   Ev (fun n=>ref1_SameBlock_L0 n (pre ++ l) (pre' ++ q) pre.length) (eqSl l q):=by
 have blk : ∀ l : List Stmt,szSl l ≤ 1000000 → (∀ (q : List Stmt) (pre pre' : List Stmt),(pre ++ l).length ≤ 1000000 → szSl l ≤ 1000000 → pre.length = pre'.length → l.length = q.length →
   Ev (fun n=>ref1_SameBlock_L0 n (pre ++ l) (pre' ++ q) pre.length) (eqSl l q)) → ∀ q,Ev (fun n=>ref1_SameBlock n l q) (eqSl l q):=by
  intro l h ih q
  have hl:=len_Sl l
  by_cases h4 : l.length = q.length
  ·have h5 : (ln l != ln q) = false:=by rw [bne_len]; simp [h4]
   refine Ev.step (Ev.of_eq (g:=fun n=>ref1_SameBlock_L0 n l q 0) (fun n=>?_) (ih q [] [] (by simp; omega) h rfl h4))
   simp only [ref1_SameBlock,h5,cond_false]
  ·have h5 : (ln l != ln q) = true:=by rw [bne_len]; simp [h4]
   rw [eqSl_len l q h4]
   refine Ev.step (Ev.of_eq (g:=fun n=>some false) (fun n=>?_) (Ev.ret _))
   simp only [ref1_SameBlock,h5,cond_true]
 refine stmt_ind ?_ ?_ ?_
 ·intro k w v m e b l a ihb ihl h
  rw [szS] at h
  exact ⟨blk b (by omega) ihb,blk l (by omega) ihl⟩
 ·intro q pre pre' h1 h2 h3 h4
  have : q = []:=List.eq_nil_of_length_eq_zero h4.symm
  subst this
  refine Ev.step (Ev.of_eq (g:=fun n=>some true) (fun n=>?_) (by simpa [eqSl] using Ev.ret true))
  simp only [ref1_SameBlock_L0,List.append_nil,ix_ge,cond_false]
 ·intro x r ihx ihr q pre pre' h1 h2 h3 h4
  cases q with
  | nil=>simp at h4
  | cons y q =>
   rw [szSl] at h2
   have hp : pre.length ≤ 1000000:=by simp at h1; omega
   have hB:=(ihx (by omega)).1
   have hL:=(ihx (by omega)).2
   have next:=ihr q (pre ++ [x]) (pre' ++ [y]) (by rw [← ix_cons]; exact h1) (by omega) (by simp [h3]) (by simpa using h4)
   have l2 : idx (pre' ++ y :: q) (pre.length : Int) = some y:=by rw [h3]; exact ix_get _ _ _
   have hw:=ix_wr pre x (by omega)
   obtain ⟨k,w,v,m,e,b,l,a⟩:=x
   obtain ⟨k',w',v',m',e',b',l',a'⟩:=y
   have hE:=rsameE_ev.1 e (by rw [szS] at h2; omega) e'
   simp only at hB hL
   rw [eqSl,eqS]
   simp only
   cases c1 : (k == k')
   ·exact Ev.step (Ev.of_eq (g:=fun n=>some false) (fun n=>by simp only [ref1_SameBlock_L0,ix_lt,ix_get,l2,cond_true,Option.bind_some,jn,bne,c1,Bool.not_false]) (Ev.ret _))
   cases c2 : bytesEq w w'
   ·exact Ev.step (Ev.of_eq (g:=fun n=>some false) (fun n=>by simp only [ref1_SameBlock_L0,ix_lt,ix_get,l2,cond_true,cond_false,Option.bind_some,jn,bne,c1,c2,Bool.not_false,Bool.not_true]) (Ev.ret _))
   cases c3 : bytesEq v v'
   ·exact Ev.step (Ev.of_eq (g:=fun n=>some false) (fun n=>by simp only [ref1_SameBlock_L0,ix_lt,ix_get,l2,cond_true,cond_false,Option.bind_some,jn,bne,c1,c2,c3,Bool.not_false,Bool.not_true]) (Ev.ret _))
   cases c4 : (m == m')
   ·exact Ev.step (Ev.of_eq (g:=fun n=>some false) (fun n=>by simp only [ref1_SameBlock_L0,ix_lt,ix_get,l2,cond_true,cond_false,Option.bind_some,jn,bne,c1,c2,c3,c4,Bool.not_false,Bool.not_true]) (Ev.ret _))
   simp only [Bool.true_and]
   have key : ∀ res,Ev (fun n=>(ref1_SameExpr n e e').bind fun r6=>bif !r6 then some false else (ref1_SameBlock n b b').bind fun r7=>bif !r7 then some false else (ref1_SameBlock n l l').bind fun r8=>bif !r8 then some false else
     ref1_SameBlock_L0 n (pre ++ ⟨k,w,v,m,e,b,l,a⟩ :: r) (pre' ++ ⟨k',w',v',m',e',b',l',a'⟩ :: q) (wr ((pre.length : Int) + 1))) res → Ev (fun n=>ref1_SameBlock_L0 n (pre ++ ⟨k,w,v,m,e,b,l,a⟩ :: r) (pre' ++ ⟨k',w',v',m',e',b',l',a'⟩ :: q) pre.length) res:=by
    intro res h
    refine Ev.step (Ev.of_eq (fun n=>?_) h)
    simp only [ref1_SameBlock_L0,ix_lt,ix_get,l2,cond_true,cond_false,Option.bind_some,jn,bne,c1,c2,c3,c4,Bool.not_true]
   refine key _ (Ev.bind hE ?_)
   cases c5 : eqE e e'
   ·exact Ev.ret _
   simp only [Bool.not_true,cond_false,Bool.true_and]
   refine Ev.bind (hB b') ?_
   cases c6 : eqSl b b'
   ·exact Ev.ret _
   simp only [Bool.not_true,cond_false,Bool.true_and]
   refine Ev.bind (hL l') ?_
   cases c7 : eqSl l l'
   ·exact Ev.ret _
   simp only [Bool.not_true,cond_false,Bool.true_and]
   rw [hw,ix_cons pre,ix_cons pre']
   exact next
theorem rsame_ev (l q : List Stmt) (h : szSl l ≤ 1000000) : Ev (fun n=>ref1_SameBlock n l q) (eqSl l q):=by
 have hl:=len_Sl l
 by_cases h4 : l.length = q.length
 ·have h5 : (ln l != ln q) = false:=by rw [bne_len]; simp [h4]
  refine Ev.step (Ev.of_eq (g:=fun n=>ref1_SameBlock_L0 n l q 0) (fun n=>?_) (rsameS_ev.2 l q [] [] (by simp; omega) h rfl h4))
  simp only [ref1_SameBlock,h5,cond_false]
 ·have h5 : (ln l != ln q) = true:=by rw [bne_len]; simp [h4]
  rw [eqSl_len l q h4]
  refine Ev.step (Ev.of_eq (g:=fun n=>some false) (fun n=>?_) (Ev.ret _))
  simp only [ref1_SameBlock,h5,cond_true]
end Go.Su.Ytogllinpkijkpaa
namespace Go.Su.Ytogllinpkijkpaa
open Go.Mx Go.Proofs
set_option linter.unusedVariables false
set_option linter.unusedSimpArgs false
set_option maxHeartbeats 4000000
def eqD (a b : Decl) : Bool:=(a.Kind == b.Kind) && (bytesEq a.Name b.Name && (a.N == b.N))
def eqDl : List Decl → List Decl → Bool
 | [],[]=>true
 | x :: r,y :: q=>eqD x y && eqDl r q
 | _,_=>false
def eqT : List (List Stmt) → List (List Stmt) → Bool
 | [],[]=>true
 | x :: r,y :: q=>eqSl x y && eqT r q
 | _,_=>false
def eqP (p q : Prog) : Bool:=eqDl p.Decls q.Decls && eqT p.Threads q.Threads
theorem eqDl_len : ∀ l q : List Decl,l.length ≠ q.length → eqDl l q = false
 | [],[],h=>absurd rfl h
 | [],_ :: _,_=>by simp [eqDl]
 | _ :: _,[],_=>by simp [eqDl]
 | x :: r,y :: q,h=>by rw [eqDl,eqDl_len r q (by simpa using h),Bool.and_false]
theorem eqT_len : ∀ l q : List (List Stmt),l.length ≠ q.length → eqT l q = false
 | [],[],h=>absurd rfl h
 | [],_ :: _,_=>by simp [eqT]
 | _ :: _,[],_=>by simp [eqT]
 | x :: r,y :: q,h=>by rw [eqT,eqT_len r q (by simpa using h),Bool.and_false]
theorem eqDl_refl : ∀ l : List Decl,eqDl l l = true
 | []=>by simp [eqDl]
 | x :: r=>by simp [eqDl,eqD,bytesEq_self,eqDl_refl r]
theorem eqT_refl : ∀ l : List (List Stmt),eqT l l = true
 | []=>by simp [eqT]
 | x :: r=>by simp [eqT,eqS_refl.2,eqT_refl r]
theorem eqP_refl (p : Prog) : eqP p p = true:=by simp [eqP,eqDl_refl,eqT_refl]
end Go.Su.Ytogllinpkijkpaa
namespace Go.Su.Ytogllinpkijkpaa
open Go.Mx Go.Proofs
set_option linter.unusedVariables false
set_option linter.unusedSimpArgs false
set_option maxHeartbeats 4000000
theorem tsameE_ev : (∀ e,szE e ≤ 1000000 → ∀ f,Ev (fun n=>tree_SameExpr n e f) (eqE e f)) ∧
  ∀ l,∀ (q : List Expr) (pre pre' : List Expr),(pre ++ l).length ≤ 1000000 → szEl l ≤ 1000000 → pre.length = pre'.length → l.length = q.length →
   Ev (fun n=>EqualFunc_Expr_ftree_SameExpr_L0 n (pre ++ l) (pre' ++ q) pre.length) (eqEl l q):=by
 refine expr_ind ?_ ?_ ?_
 ·intro k m w l ih h f
  obtain ⟨k',m',w',l'⟩:=f
  rw [szE] at h
  have hl:=len_El l
  have hq : Ev (fun n=>EqualFunc_Expr_ftree_SameExpr n l l') (eqEl l l'):=by
   by_cases h4 : l.length = l'.length
   ·have h5 : (ln l != ln l') = false:=by rw [bne_len]; simp [h4]
    refine Ev.step (Ev.of_eq (g:=fun n=>EqualFunc_Expr_ftree_SameExpr_L0 n l l' 0) (fun n=>?_) (ih l' [] [] (by simp; omega) (by omega) rfl h4))
    simp only [EqualFunc_Expr_ftree_SameExpr,h5,cond_false]
   ·have h5 : (ln l != ln l') = true:=by rw [bne_len]; simp [h4]
    rw [eqEl_len l l' h4]
    refine Ev.step (Ev.of_eq (g:=fun n=>some false) (fun n=>?_) (Ev.ret _))
    simp only [EqualFunc_Expr_ftree_SameExpr,h5,cond_true]
  rw [eqE]
  simp only
  cases h1 : (k == k')
  ·exact Ev.step (Ev.of_eq (g:=fun n=>some false) (fun n=>by simp only [tree_SameExpr,jn,h1,cond_false]) (Ev.ret _))
  cases h2 : (m == m')
  ·exact Ev.step (Ev.of_eq (g:=fun n=>some false) (fun n=>by simp only [tree_SameExpr,jn,h1,h2,cond_true,cond_false]) (Ev.ret _))
  cases h3 : bytesEq w w'
  ·exact Ev.step (Ev.of_eq (g:=fun n=>some false) (fun n=>by simp only [tree_SameExpr,jn,h1,h2,h3,cond_true,cond_false]) (Ev.ret _))
  simp only [Bool.true_and]
  refine Ev.step (Ev.of_eq (g:=fun n=>(EqualFunc_Expr_ftree_SameExpr n l l').bind fun r3=>some r3) (fun n=>?_) (Ev.bind hq (Ev.ret _)))
  simp only [tree_SameExpr,jn,h1,h2,h3,cond_true]
 ·intro q pre pre' h1 h2 h3 h4
  have : q = []:=List.eq_nil_of_length_eq_zero h4.symm
  subst this
  refine Ev.step (Ev.of_eq (g:=fun n=>some true) (fun n=>?_) (by simpa [eqEl] using Ev.ret true))
  simp only [EqualFunc_Expr_ftree_SameExpr_L0,List.append_nil,ix_ge,cond_false]
 ·intro x r ihx ihr q pre pre' h1 h2 h3 h4
  cases q with
  | nil=>simp at h4
  | cons y q =>
   rw [szEl] at h2
   have hp : pre.length ≤ 1000000:=by simp at h1; omega
   refine Ev.step (Ev.of_eq (g:=fun n=>(tree_SameExpr n x y).bind fun r6=>bif !r6 then some false else EqualFunc_Expr_ftree_SameExpr_L0 n ((pre ++ [x]) ++ r) ((pre' ++ [y]) ++ q) ((pre ++ [x]).length)) (fun n=>?_) (Ev.bind (ihx (by omega) y) ?_))
   ·have l2 : idx (pre' ++ y :: q) (pre.length : Int) = some y:=by rw [h3]; exact ix_get _ _ _
    simp only [EqualFunc_Expr_ftree_SameExpr_L0,ix_lt,ix_get,l2,cond_true,Option.bind_some]
    rw [ix_wr pre x (by omega),← ix_cons,← ix_cons]
   ·rw [eqEl]
    cases h5 : eqE x y
    ·exact Ev.ret _
    ·simp only [Bool.not_true,cond_false,Bool.true_and]
     exact ihr q (pre ++ [x]) (pre' ++ [y]) (by rw [← ix_cons]; exact h1) (by omega) (by simp [h3]) (by simpa using h4)
theorem tsameB_of (l q : List Stmt) (hl : l.length ≤ 1000000) (ih : l.length = q.length → Ev (fun n=>EqualFunc_Stmt_ftree_sameStmt_L0 n l q 0) (eqSl l q)) : Ev (fun n=>tree_sameBlock n l q) (eqSl l q):=by
 have hq : Ev (fun n=>EqualFunc_Stmt_ftree_sameStmt n l q) (eqSl l q):=by
  by_cases h4 : l.length = q.length
  ·have h5 : (ln l != ln q) = false:=by rw [bne_len]; simp [h4]
   exact Ev.step (Ev.of_eq (fun n=>by simp only [EqualFunc_Stmt_ftree_sameStmt,h5,cond_false]) (ih h4))
  ·have h5 : (ln l != ln q) = true:=by rw [bne_len]; simp [h4]
   rw [eqSl_len l q h4]
   exact Ev.step (Ev.of_eq (g:=fun n=>some false) (fun n=>by simp only [EqualFunc_Stmt_ftree_sameStmt,h5,cond_true]) (Ev.ret _))
 exact Ev.step (Ev.of_eq (g:=fun n=>(EqualFunc_Stmt_ftree_sameStmt n l q).bind fun r1=>some r1) (fun n=>by simp only [tree_sameBlock]) (Ev.bind hq (Ev.ret _)))
theorem tsameS_ev : (∀ s,szS s ≤ 1000000 → ∀ t,Ev (fun n=>tree_sameStmt n s t) (eqS s t)) ∧
  ∀ l,∀ (q : List Stmt) (pre pre' : List Stmt),(pre ++ l).length ≤ 1000000 → szSl l ≤ 1000000 → pre.length = pre'.length → l.length = q.length →
   Ev (fun n=>EqualFunc_Stmt_ftree_sameStmt_L0 n (pre ++ l) (pre' ++ q) pre.length) (eqSl l q):=by
 refine stmt_ind ?_ ?_ ?_
 ·intro k w v m e b l a ihb ihl h t
  obtain ⟨k',w',v',m',e',b',l',a'⟩:=t
  rw [szS] at h
  have lb:=len_Sl b
  have ll:=len_Sl l
  have hB:=tsameB_of b b' (by omega) fun e=>ihb b' [] [] (by simp; omega) (by omega) rfl e
  have hL:=tsameB_of l l' (by omega) fun e=>ihl l' [] [] (by simp; omega) (by omega) rfl e
  have hE:=tsameE_ev.1 e (by omega) e'
  rw [eqS]
  simp only
  cases c1 : (k == k')
  ·exact Ev.step (Ev.of_eq (g:=fun n=>some false) (fun n=>by simp only [tree_sameStmt,jn,c1,cond_false]) (Ev.ret _))
  cases c2 : bytesEq w w'
  ·exact Ev.step (Ev.of_eq (g:=fun n=>some false) (fun n=>by simp only [tree_sameStmt,jn,c1,c2,cond_true,cond_false]) (Ev.ret _))
  cases c3 : bytesEq v v'
  ·exact Ev.step (Ev.of_eq (g:=fun n=>some false) (fun n=>by simp only [tree_sameStmt,jn,c1,c2,c3,cond_true,cond_false]) (Ev.ret _))
  cases c4 : (m == m')
  ·exact Ev.step (Ev.of_eq (g:=fun n=>some false) (fun n=>by simp only [tree_sameStmt,jn,c1,c2,c3,c4,cond_true,cond_false]) (Ev.ret _))
  simp only [Bool.true_and]
  refine Ev.step (Ev.of_eq (g:=fun n=>(tree_SameExpr n e e').bind fun r3=>bif r3 then (tree_sameBlock n b b').bind fun r4=>bif r4 then (tree_sameBlock n l l').bind fun r5=>some r5 else some false else some false) (fun n=>?_) (Ev.bind hE ?_))
  ·simp only [tree_sameStmt,jn,c1,c2,c3,c4,cond_true]
  cases c5 : eqE e e'
  ·exact Ev.ret _
  simp only [cond_true,Bool.true_and]
  refine Ev.bind hB ?_
  cases c6 : eqSl b b'
  ·exact Ev.ret _
  simp only [cond_true,Bool.true_and]
  exact Ev.bind hL (Ev.ret _)
 ·intro q pre pre' h1 h2 h3 h4
  have : q = []:=List.eq_nil_of_length_eq_zero h4.symm
  subst this
  refine Ev.step (Ev.of_eq (g:=fun n=>some true) (fun n=>?_) (by simpa [eqSl] using Ev.ret true))
  simp only [EqualFunc_Stmt_ftree_sameStmt_L0,List.append_nil,ix_ge,cond_false]
 ·intro x r ihx ihr q pre pre' h1 h2 h3 h4
  cases q with
  | nil=>simp at h4
  | cons y q =>
   rw [szSl] at h2
   have hp : pre.length ≤ 1000000:=by simp at h1; omega
   have l2 : idx (pre' ++ y :: q) (pre.length : Int) = some y:=by rw [h3]; exact ix_get _ _ _
   refine Ev.step (Ev.of_eq (g:=fun n=>(tree_sameStmt n x y).bind fun r4=>bif !r4 then some false else EqualFunc_Stmt_ftree_sameStmt_L0 n ((pre ++ [x]) ++ r) ((pre' ++ [y]) ++ q) ((pre ++ [x]).length)) (fun n=>?_) (Ev.bind (ihx (by omega) y) ?_))
   ·simp only [EqualFunc_Stmt_ftree_sameStmt_L0,ix_lt,ix_get,l2,cond_true,Option.bind_some]
    rw [ix_wr pre x (by omega),← ix_cons,← ix_cons]
   ·rw [eqSl]
    cases c : eqS x y
    ·exact Ev.ret _
    ·simp only [Bool.not_true,cond_false,Bool.true_and]
     exact ihr q (pre ++ [x]) (pre' ++ [y]) (by rw [← ix_cons]; exact h1) (by omega) (by simp [h3]) (by simpa using h4)
theorem tsameB_ev (l q : List Stmt) (h : szSl l ≤ 1000000) : Ev (fun n=>tree_sameBlock n l q) (eqSl l q):=by
 have hl:=len_Sl l
 exact tsameB_of l q (by omega) fun e=>tsameS_ev.2 l q [] [] (by simp; omega) h rfl e
theorem tsame1 (n : Nat) (a b : Decl) : tree_Same_1 n a b = some (eqD a b):=by
 unfold tree_Same_1 jn eqD
 cases (a.Kind == b.Kind) <;> cases bytesEq a.Name b.Name <;> rfl
theorem tsameD_L0 : ∀ (l q pre pre' : List Decl),(pre ++ l).length ≤ 1000000 → pre.length = pre'.length → l.length = q.length → Ev (fun n=>EqualFunc_Decl_ftree_Same_1_L0 n (pre ++ l) (pre' ++ q) pre.length) (eqDl l q)
 | [],q,pre,pre',h1,h3,h4=>by
  have : q = []:=List.eq_nil_of_length_eq_zero h4.symm
  subst this
  refine Ev.step (Ev.of_eq (g:=fun n=>some true) (fun n=>?_) (by simpa [eqDl] using Ev.ret true))
  simp only [EqualFunc_Decl_ftree_Same_1_L0,List.append_nil,ix_ge,cond_false]
 | x :: r,[],pre,pre',h1,h3,h4=>by simp at h4
 | x :: r,y :: q,pre,pre',h1,h3,h4=>by
  have hp : pre.length ≤ 1000000:=by simp at h1; omega
  have l2 : idx (pre' ++ y :: q) (pre.length : Int) = some y:=by rw [h3]; exact ix_get _ _ _
  have hw:=ix_wr pre x (by omega)
  have nx:=tsameD_L0 r q (pre ++ [x]) (pre' ++ [y]) (by rw [← ix_cons]; exact h1) (by simp [h3]) (by simpa using h4)
  rw [eqDl]
  cases c1 : eqD x y
  ·exact Ev.step (Ev.of_eq (g:=fun n=>some false) (fun n=>by simp only [EqualFunc_Decl_ftree_Same_1_L0,ix_lt,ix_get,l2,tsame1,c1,cond_true,Option.bind_some,Bool.not_false]) (Ev.ret _))
  simp only [Bool.true_and]
  refine Ev.step (Ev.of_eq (fun n=>?_) nx)
  simp only [EqualFunc_Decl_ftree_Same_1_L0,ix_lt,ix_get,l2,tsame1,c1,cond_true,cond_false,Option.bind_some,Bool.not_true,hw]
  rw [← ix_cons,← ix_cons]
theorem tsameT_L0 : ∀ (l q pre pre' : List (List Stmt)),(pre ++ l).length ≤ 1000000 → szT l ≤ 1000000 → pre.length = pre'.length → l.length = q.length → Ev (fun n=>EqualFunc_LStmt_ftree_sameBlock_L0 n (pre ++ l) (pre' ++ q) pre.length) (eqT l q)
 | [],q,pre,pre',h1,hz,h3,h4=>by
  have : q = []:=List.eq_nil_of_length_eq_zero h4.symm
  subst this
  refine Ev.step (Ev.of_eq (g:=fun n=>some true) (fun n=>?_) (by simpa [eqT] using Ev.ret true))
  simp only [EqualFunc_LStmt_ftree_sameBlock_L0,List.append_nil,ix_ge,cond_false]
 | x :: r,[],pre,pre',h1,hz,h3,h4=>by simp at h4
 | x :: r,y :: q,pre,pre',h1,hz,h3,h4=>by
  rw [szT] at hz
  have hp : pre.length ≤ 1000000:=by simp at h1; omega
  have l2 : idx (pre' ++ y :: q) (pre.length : Int) = some y:=by rw [h3]; exact ix_get _ _ _
  have nx:=tsameT_L0 r q (pre ++ [x]) (pre' ++ [y]) (by rw [← ix_cons]; exact h1) (by omega) (by simp [h3]) (by simpa using h4)
  refine Ev.step (Ev.of_eq (g:=fun n=>(tree_sameBlock n x y).bind fun r7=>bif !r7 then some false else EqualFunc_LStmt_ftree_sameBlock_L0 n ((pre ++ [x]) ++ r) ((pre' ++ [y]) ++ q) ((pre ++ [x]).length)) (fun n=>?_) (Ev.bind (tsameB_ev x y (by omega)) ?_))
  ·simp only [EqualFunc_LStmt_ftree_sameBlock_L0,ix_lt,ix_get,l2,cond_true,Option.bind_some]
   rw [ix_wr pre x (by omega),← ix_cons,← ix_cons]
  ·rw [eqT]
   cases c : eqSl x y
   ·exact Ev.ret _
   ·simpa using nx
theorem tsameP_ev (p q : Prog) (hd : p.Decls.length ≤ 1000000) (hz : szT p.Threads ≤ 1000000) : Ev (fun n=>tree_Same n p q) (eqP p q):=by
 obtain ⟨D,ts⟩:=p
 obtain ⟨D',ts'⟩:=q
 have hT:=len_T ts
 simp only at hd hz
 have h1 : Ev (fun n=>EqualFunc_Decl_ftree_Same_1 n D D') (eqDl D D'):=by
  by_cases h4 : D.length = D'.length
  ·have h5 : (ln D != ln D') = false:=by rw [bne_len]; simp [h4]
   exact Ev.of_eq (fun n=>by simp only [EqualFunc_Decl_ftree_Same_1,h5,cond_false]; rfl) (tsameD_L0 D D' [] [] (by simpa using hd) rfl h4)
  ·have h5 : (ln D != ln D') = true:=by rw [bne_len]; simp [h4]
   rw [eqDl_len D D' h4]
   exact Ev.of_eq (g:=fun n=>some false) (fun n=>by simp only [EqualFunc_Decl_ftree_Same_1,h5,cond_true]) (Ev.ret _)
 have h2 : Ev (fun n=>EqualFunc_LStmt_ftree_sameBlock n ts ts') (eqT ts ts'):=by
  by_cases h4 : ts.length = ts'.length
  ·have h5 : (ln ts != ln ts') = false:=by rw [bne_len]; simp [h4]
   exact Ev.of_eq (fun n=>by simp only [EqualFunc_LStmt_ftree_sameBlock,h5,cond_false]; rfl) (tsameT_L0 ts ts' [] [] (by simp; omega) hz rfl h4)
  ·have h5 : (ln ts != ln ts') = true:=by rw [bne_len]; simp [h4]
   rw [eqT_len ts ts' h4]
   exact Ev.of_eq (g:=fun n=>some false) (fun n=>by simp only [EqualFunc_LStmt_ftree_sameBlock,h5,cond_true]) (Ev.ret _)
 refine Ev.of_eq (g:=fun n=>(EqualFunc_Decl_ftree_Same_1 n D D').bind fun r3=>bif r3 then (EqualFunc_LStmt_ftree_sameBlock n ts ts').bind fun r4=>some r4 else some false) (fun n=>by simp only [tree_Same,jn]) (Ev.bind h1 ?_)
 unfold eqP
 simp only
 cases c : eqDl D D'
 ·exact Ev.ret _
 ·simp only [cond_true,Bool.true_and]; exact Ev.bind h2 (Ev.ret _)
end Go.Su.Ytogllinpkijkpaa
namespace Go.Su.Ytogllinpkijkpaa
open Go.Mx Go.Proofs
set_option linter.unusedVariables false
set_option linter.unusedSimpArgs false
set_option maxHeartbeats 4000000
set_option maxRecDepth 1000000 in
theorem known3_ev : Ev (fun n=>law3_known n) true:=by
 refine ⟨60,fun n hn=>?_⟩
 obtain ⟨k,rfl⟩ : ∃ k,n = k + 60:=⟨n - 60,by omega⟩
 have : ∀ k,law3_known (k + 60) = some true:=by intro k; kernel_rfl
 exact this k
theorem copyB_ev (l : List Stmt) (h : szSl l ≤ 1000000) : Ev (fun n=>tree_copyBlock n l) l:=by
 have hl:=len_Sl l
 have hr : room s_Stmt.i1.bytes ([] : List Stmt).length l.length = true:=room_of (by
  have : s_Stmt.i1.bytes = 168:=rfl
  rw [this]; simp only [List.length_nil]; omega)
 refine Ev.step (Ev.of_eq (g:=fun n=>tree_copyBlock_L0 n l l l l 0) (fun n=>?_) (copyS_ev.2 l l l [] h (by simp; omega)))
 simp only [tree_copyBlock,Clone_Stmt,Clip_Stmt_o,hr,cond_true,Option.bind_some]; rfl
theorem Copy_L0 (D : List Decl) (ts : List (List Stmt)) (hz : szT ts ≤ 1000000) (r1 : List Decl) : ∀ (l pre : List (List Stmt)),ts = pre ++ l → Ev (fun n=>tree_Copy_L0 n ⟨D,ts⟩ r1 D pre pre.length) ⟨D,ts⟩
 | [],pre,e=>by
  rw [List.append_nil] at e
  subst e
  refine Ev.step (Ev.of_eq (g:=fun n=>some ⟨D,ts⟩) (fun n=>?_) (Ev.ret _))
  simp only [tree_Copy_L0,ix_ge,cond_false,Clip_LStmt_o,Option.bind_some]
 | t :: r,pre,e=>by
  have hts:=len_T ts
  have hp : pre.length + 1 ≤ ts.length:=by rw [e]; simp
  have hzt : szSl t ≤ szT ts:=by
   rw [e]; clear e hp
   induction pre with
   | nil=>simp only [List.nil_append,szT]; omega
   | cons a b ih=>simp only [List.cons_append,szT]; omega
  refine Ev.step (Ev.of_eq (g:=fun n=>(tree_copyBlock n t).bind fun r6=>bif room s_LStmt.i1.bytes pre.length [r6].length then tree_Copy_L0 n ⟨D,ts⟩ r1 D (pre ++ [r6]) ((pre ++ [t]).length) else none) (fun n=>?_) (Ev.bind (copyB_ev t (by omega)) ?_))
  ·have l1 : decide ((pre.length : Int) < ln ts) = true:=by rw [e]; exact ix_lt _ _ _
   have l2 : idx ts (pre.length : Int) = some t:=by rw [e]; exact ix_get _ _ _
   simp only [tree_Copy_L0,l1,l2,cond_true,Option.bind_some]
   rw [ix_wr pre t (by omega)]
  ·have hr : room s_LStmt.i1.bytes pre.length [t].length = true:=room_of (by
    have : s_LStmt.i1.bytes = 24:=rfl
    rw [this]; simp only [List.length_singleton]; omega)
   simp only [hr,cond_true]
   exact Copy_L0 D ts hz r1 r (pre ++ [t]) (by rw [e]; exact ix_cons _ _ _)
theorem Clone_D (D : List Decl) (hd : D.length ≤ 1000000) (n : Nat) : Clone_Decl n D = some D:=by
 have hr : room s_Decl.i1.bytes ([] : List Decl).length D.length = true:=room_of (by
  have : s_Decl.i1.bytes = 48:=rfl
  rw [this]; simp only [List.length_nil]; omega)
 simp only [Clone_Decl,hr,cond_true,List.nil_append]
theorem Copy_ev (D : List Decl) (ts : List (List Stmt)) (hz : szT ts ≤ 1000000) (hd : D.length ≤ 1000000) : Ev (fun n=>tree_Copy n ⟨D,ts⟩) ⟨D,ts⟩:=by
 refine Ev.of_eq (fun n=>?_) (Copy_L0 D ts hz D ts [] rfl)
 simp only [tree_Copy,Clone_D D hd,Clip_Decl_o,Option.bind_some]; rfl
theorem szT_of : ∀ ts : List (List Stmt),okTs ts → szT ts ≤ 641 * ts.length
 | [],_=>by simp [szT]
 | t :: r,h=>by
  have h1:=h t (by simp)
  have:=szS_wt.2 t 2 h1.1
  have:=szT_of r (fun x hx=>h x (by simp [hx]))
  rw [szT,List.length_cons]; omega
theorem kind_fl : (∀ s d,okS d s → ∀ y ∈ fl1 s,¬ y.Kind < 0) ∧ ∀ l d,okSl d l → ∀ y ∈ flat l,¬ y.Kind < 0:=by
 refine stmt_ind ?_ (by simp [flat]) ?_
 ·intro k w v m e b l a hb hl d h y hy
  rw [okS] at h
  obtain ⟨h1,_,_,h4,h5⟩:=h
  rw [fl1] at hy
  rcases List.mem_cons.1 hy with rfl | hy
  ·cases h1 <;> simp
  ·rcases List.mem_append.1 hy with hy | hy
   ·exact hb _ h4 y hy
   ·exact hl _ h5 y hy
 ·intro s r hs hr d h y hy
  rw [okSl] at h
  rw [flat] at hy
  rcases List.mem_append.1 hy with hy | hy
  ·exact hs d h.1 y hy
  ·exact hr d h.2 y hy
def sm : List Stmt → Int
 | []=>0
 | y :: r=>(1 - (y.Body.length : Int) - (y.Else.length : Int)) + sm r
theorem sm_app : ∀ a b : List Stmt,sm (a ++ b) = sm a + sm b
 | [],b=>by simp [sm]
 | y :: r,b=>by rw [List.cons_append,sm,sm,sm_app r b]; omega
theorem sm_fl : (∀ s,sm (fl1 s) = 1) ∧ ∀ l,sm (flat l) = (l.length : Int):=by
 refine stmt_ind ?_ (by simp [flat,sm]) ?_
 ·intro k w v m e b l a hb hl
  rw [fl1,sm,sm_app,hb,hl]
  simp only
  omega
 ·intro s r hs hr
  rw [flat,sm_app,hs,hr,List.length_cons]
  omega
theorem sm_bd : ∀ l : List Stmt,(∀ y ∈ l,y.Body.length ≤ 10000 ∧ y.Else.length ≤ 10000) → -(20000 * (l.length : Int)) ≤ sm l ∧ sm l ≤ l.length
 | [],_=>by simp [sm]
 | y :: r,h=>by
  have h1:=h y (by simp)
  have h2:=sm_bd r fun z hz=>h z (by simp [hz])
  rw [sm,List.length_cons]
  omega
theorem Ev_all {α : Type} {f : α → Nat → Option Bool} : ∀ l : List α,(∀ y ∈ l,Ev (f y) true) → ∃ n0,∀ n,n0 ≤ n → ∀ y ∈ l,f y n = some true
 | [],_=>⟨0,fun n _ y hy=>by simp at hy⟩
 | x :: r,h=>by
  obtain ⟨n1,h1⟩:=h x (by simp)
  obtain ⟨n2,h2⟩:=Ev_all r fun y hy=>h y (by simp [hy])
  refine ⟨n1 + n2,fun n hn y hy=>?_⟩
  rcases List.mem_cons.1 hy with rfl | hy
  ·exact h1 n (by omega)
  ·exact h2 n (by omega) y hy
theorem sz_parts (y : Stmt) : y.Body.length ≤ szS y ∧ y.Else.length ≤ szS y ∧ y.E.Of.length ≤ szS y:=by
 cases y with
 | mk k w v m e b l a =>
  have h1:=len_Sl b
  have h2:=len_Sl l
  have h3:=len_El e.Of
  have h4 : szE e = 1 + szEl e.Of:=by cases e; simp only [szE]
  simp only [szS]
  omega
theorem own_pt (a0 : Int) (a1 a2 : List Act) (a3 : Int) : PT Try.prog 3 [vi a0,po s_Act a1,po s_Act a2,vi a3] (vb true):=by
 obtain ⟨D,ts,hP,oD,oT,hlen⟩:=prog2_ev a0 a1 a2 6 (by omega)
 obtain ⟨l0,l1,rfl⟩ : ∃ l0 l1,ts = [l0,l1]:=by
  match ts,hlen with
  | [a,b],_=>exact ⟨a,b,rfl⟩
 have hz : szT [l0,l1] ≤ 2000:=by have:=szT_of _ oT; simp only [List.length_cons,List.length_nil] at this; omega
 have hDl : D.length ≤ 1000000:=by obtain ⟨_,_,_,_,_,_,rfl⟩:=oD; simp
 obtain ⟨nP,hP⟩:=hP
 obtain ⟨nk,hk⟩:=known3_ev
 obtain ⟨nL,hL⟩:=List_ev D [l0,l1] (by omega)
 have f3:=tsameP_ev ⟨D,[l0,l1]⟩ ⟨D,[l0,l1]⟩ hDl (by simp only; omega)
 rw [eqP_refl] at f3
 obtain ⟨nS,hS⟩:=f3
 obtain ⟨nC,hC⟩:=Copy_ev D [l0,l1] (by omega) hDl
 have z2 : szSl l0 ≤ 2000 ∧ szSl l1 ≤ 2000:=by simp only [szT] at hz; omega
 obtain ⟨n0,hc0⟩:=copyB_ev l0 (by omega)
 obtain ⟨n1,hc1⟩:=copyB_ev l1 (by omega)
 have hfl : ∀ y ∈ flats [l0,l1],szS y ≤ 2000:=fun y hy=>by have:=sz_flats [l0,l1] y hy; omega
 obtain ⟨nB,hB⟩:=Ev_all (f:=fun y n=>ref1_SameBlock n [y] [y]) (flats [l0,l1]) fun y hy=>by
  have:=hfl y hy
  have sm':=rsame_ev [y] [y] (by simp [szSl]; omega)
  rw [eqS_refl.2] at sm'
  exact sm'
 have hrl : (flats [l0,l1]).length ≤ 2000:=by have:=(len_T [l0,l1]).2; omega
 generalize hN : nP + nk + nL + nS + nC + n0 + n1 + nB = N
 have hP:=hP N (by omega)
 have hk:=hk N (by omega)
 have hL:=hL N (by omega)
 have hS:=hS N (by omega)
 have hC:=hC N (by omega)
 have hc0:=hc0 N (by omega)
 have hc1:=hc1 N (by omega)
 have hB:=hB N (by omega)
 obtain ⟨d0,dr,rfl,hd0⟩ : ∃ d0 dr,D = d0 :: dr ∧ d0.Name = k_x:=by obtain ⟨_,_,_,_,_,_,rfl⟩:=oD; exact ⟨_,_,rfl,rfl⟩
 by_cases h0 : l0 = []
 ·exact own_walk0 hP hk hL hS hC h0
 have hpos : 0 < l0.length:=by cases l0 <;> simp_all
 have hl0:=len_Sl l0
 have hF0 : (s_Stmt.F l0).length = l0.length:=s_Stmt.len l0
 have hF1 : (s_Stmt.F l1).length = l1.length:=s_Stmt.len l1
 have hm0:=Int.emod_nonneg a3 (show (l0.length : Int) ≠ 0 by omega)
 have hm1:=Int.emod_lt_of_pos a3 (show (0 : Int) < (l0.length : Int) by omega)
 obtain ⟨kk,hkk⟩ : ∃ kk : Nat,(kk : Int) = a3 % (l0.length : Int):=⟨(a3 % (l0.length : Int)).toNat,by omega⟩
 have hkl : kk < l0.length:=by omega
 have hx : l0[kk]? = some l0[kk]:=List.getElem?_eq_getElem hkl
 have hmem : ∀ l : List Stmt,∀ x ∈ l,x ∈ flat l:=by
  intro l
  induction l with
  | nil=>intro x hx; simp at hx
  | cons a r ih =>
   intro x hx
   rw [flat]
   rcases List.mem_cons.1 hx with rfl | hx
   ·refine List.mem_append.2 (.inl ?_)
    cases x; rw [fl1]; simp
   ·exact List.mem_append.2 (.inr (ih x hx))
 have hxm : l0[kk] ∈ flats [l0,l1]:=by rw [flats]; exact List.mem_append.2 (.inl (hmem l0 _ (List.getElem_mem hkl)))
 have hxs:=hfl _ hxm
 have hxp:=sz_parts l0[kk]
 refine own_walk1 hP hk hL hS hc0 hc1 (Clone_D _ hDl 0) (kk:=kk) (x:=l0[kk]) ?_ hx (by omega) (by omega) (by omega) (by omega) ?_ hB ?_ (fun i=>sm ((flats [l0,l1]).take i)) rfl ?_ ?_
 ·rw [hF0,pick_eq N a3 _ (by omega) (by omega),hkk]
 ·intro ts
  have f:=tsameP_ev ⟨d0 :: dr,[l0,l1]⟩ ⟨{ d0 with Name:=k_o } :: dr,ts⟩ hDl (by simp only; omega)
  have e : eqP ⟨d0 :: dr,[l0,l1]⟩ ⟨{ d0 with Name:=k_o } :: dr,ts⟩ = false:=by
   have : bytesEq k_x k_o = false:=by decide
   simp [eqP,eqDl,eqD,hd0,this]
  rw [e] at f
  obtain ⟨m,hm⟩:=f
  exact ⟨m,hm m (Nat.le_refl _)⟩
 ·intro y hy
  have o0:=oT l0 (by simp)
  have o1:=oT l1 (by simp)
  simp only [flats,List.append_nil] at hy
  rcases List.mem_append.1 hy with hy | hy
  ·exact kind_fl.2 l0 2 o0.1 y hy
  ·exact kind_fl.2 l1 2 o1.1 y hy
 ·intro i y hy
  have hi:=(List.getElem?_eq_some_iff.1 hy).1
  have hbd:=sm_bd ((flats [l0,l1]).take i) fun z hz=>by
   have h1:=hfl z (List.mem_of_mem_take hz)
   have h2:=sz_parts z
   omega
  have hlt : ((flats [l0,l1]).take i).length ≤ 2000:=by rw [List.length_take]; omega
  have hy1:=hfl y (List.mem_of_getElem? hy)
  have hy2:=sz_parts y
  have ht : (flats [l0,l1]).take (i + 1) = (flats [l0,l1]).take i ++ [y]:=by
   rw [List.take_add_one,hy]; rfl
  show sm ((flats [l0,l1]).take (i + 1)) = wr (wr (wr (sm ((flats [l0,l1]).take i) + 1) - (y.Body.length : Int)) - (y.Else.length : Int))
  rw [ht,sm_app]
  generalize sm ((flats [l0,l1]).take i) = c at hbd ⊢
  rw [wr_of (x:=c + 1) (by omega),wr_of (x:=c + 1 - (y.Body.length : Int)) (by omega),wr_of (by omega)]
  simp only [sm]
  omega
 ·show sm ((flats [l0,l1]).take (flats [l0,l1]).length) = _
  have hl1:=len_Sl l1
  rw [List.take_length,hF0,hF1,wr_of (by omega)]
  simp only [flats,List.append_nil]
  rw [sm_app,sm_fl.2,sm_fl.2]
end Go.Su.Ytogllinpkijkpaa
