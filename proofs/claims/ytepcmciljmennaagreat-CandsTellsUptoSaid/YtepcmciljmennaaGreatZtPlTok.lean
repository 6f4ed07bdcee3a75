/-
  Tokens of any text.
-/
import Derived.Test.YtepcmciljmennaaGreatZtPlRoom
namespace Go.Su.YtepcmciljmennaaGreat
open Go.Mx Go.Proofs
set_option linter.unusedVariables false
set_option linter.unusedSimpArgs false
set_option maxHeartbeats 4000000
mutual
def nmE : Expr → List ByteArray
 | ⟨k,_,w,l⟩=>(if k = 2 then [w] else []) ++ nmEl l
def nmEl : List Expr → List ByteArray
 | []=>[]
 | e :: r=>nmE e ++ nmEl r
end
theorem nm_len : (∀ e,(nmE e).length ≤ szE e) ∧ ∀ l,(nmEl l).length ≤ szEl l:=by
 refine expr_ind ?_ (by simp [nmEl]) ?_
 ·intro k n w l h
  rw [nmE,szE]; split <;> simp <;> omega
 ·intro e r h1 h2
  rw [nmEl,szEl,List.length_append]; omega
def tch (s : Stmt) : List ByteArray:=(if s.Kind = 1 ∨ s.Kind = 4 ∨ s.Kind = 6 ∨ s.Kind = 7 then nmE s.E else []) ++ (if s.Kind = 1 then [s.Name] else if s.Kind = 5 then [s.Other] else [])
theorem roomW (a b : Nat) (h : a + b ≤ 3000000) : room s_string.i1.bytes a b = true:=room_of (by
 have : s_string.i1.bytes = 16:=rfl
 rw [this]; omega)
theorem tnames_ev : (∀ e,szE e ≤ 1000000 → Ev (fun n=>tree_Names n e) (nmE e)) ∧
  ∀ l,∀ (k m : Int) (w : ByteArray) (l1 : List ByteArray) (pre : List Expr) (acc : List ByteArray),(pre ++ l).length ≤ 1000000 → acc.length + szEl l ≤ 1000000 → Ev (fun n=>tree_Names_L0 n ⟨k,m,w,pre ++ l⟩ l1 acc pre.length) (acc ++ nmEl l):=by
 refine expr_ind ?_ ?_ ?_
 ·intro k m w l ih h
  rw [szE] at h
  have hl:=len_El l
  by_cases h2 : k = 2
  ·have b : (k == 2) = true:=by simpa using h2
   refine Ev.step (Ev.of_eq (g:=fun n=>tree_Names_L0 n ⟨k,m,w,[] ++ l⟩ ([] ++ [w]) ([] ++ [w]) 0) (fun n=>?_) ?_)
   ·simp only [tree_Names,jn,b,cond_true,roomW ([] : List ByteArray).length [w].length (by simp)]; rfl
   ·have:=ih k m w ([] ++ [w]) [] ([] ++ [w]) (by simp; omega) (by simp; omega)
    rw [nmE,if_pos h2]; exact this
  ·have b : (k == 2) = false:=by simpa using h2
   refine Ev.step (Ev.of_eq (g:=fun n=>tree_Names_L0 n ⟨k,m,w,[] ++ l⟩ [] [] 0) (fun n=>?_) ?_)
   ·simp only [tree_Names,jn,b,cond_false]; rfl
   ·have:=ih k m w [] [] [] (by simp; omega) (by simp; omega)
    rw [nmE,if_neg h2]; exact this
 ·intro k m w l1 pre acc hl h1
  refine Ev.step (Ev.of_eq (g:=fun n=>some acc) (fun n=>?_) (by simpa [nmEl] using Ev.ret acc))
  simp only [tree_Names_L0,List.append_nil,ix_ge,cond_false,Clip_string,sub_all,Option.bind_some]
 ·intro e r ihe ihr k m w l1 pre acc hl h1
  rw [szEl] at h1
  have hn:=nm_len.1 e
  have hp : pre.length ≤ 1000000:=by simp at hl; omega
  refine Ev.step (Ev.of_eq (g:=fun n=>(tree_Names n e).bind fun r7=>bif room s_string.i1.bytes acc.length r7.length then tree_Names_L0 n ⟨k,m,w,(pre ++ [e]) ++ r⟩ l1 (acc ++ r7) ((pre ++ [e]).length) else none) (fun n=>?_) (Ev.bind (ihe (by omega)) ?_))
  ·simp only [tree_Names_L0,ix_lt,cond_true,ix_get,Option.bind_some]
   rw [ix_wr pre e (by omega),← ix_cons]
  ·simp only [roomW acc.length (nmE e).length (by omega),cond_true]
   have:=ihr k m w l1 (pre ++ [e]) (acc ++ nmE e) (by rw [← ix_cons]; exact hl) (by rw [List.length_append]; omega)
   rw [nmEl]; simpa using this
theorem ttouch_ev (s : Stmt) (h : szE s.E ≤ 1000000) : Ev (fun n=>tree_Touches n s) (tch s):=by
 have hn:=nm_len.1 s.E
 have r1 : ∀ w : ByteArray,room s_string.i1.bytes (nmE s.E).length [w].length = true:=fun w=>roomW _ _ (by simp; omega)
 have r2 : ∀ w : ByteArray,room s_string.i1.bytes ([] : List ByteArray).length [w].length = true:=fun w=>roomW _ _ (by simp)
 by_cases k1 : s.Kind = 1
 ·have e : tch s = nmE s.E ++ [s.Name]:=by simp [tch,k1]
  rw [e]
  refine Ev.of_eq (g:=fun n=>(tree_Names n s.E).bind fun r5=>bif room s_string.i1.bytes r5.length [s.Name].length then some (r5 ++ [s.Name]) else none) (fun n=>?_) (Ev.bind (tnames_ev.1 s.E h) ?_)
  ·simp only [tree_Touches,jn,k1,Clip_string,sub_all,Option.bind_some]; rfl
  ·simp only [r1,cond_true]; exact Ev.ret _
 have b1 : (s.Kind == 1) = false:=by simpa using k1
 by_cases k2 : s.Kind = 4 ∨ s.Kind = 6 ∨ s.Kind = 7
 ·have e : tch s = nmE s.E:=by
   have : s.Kind ≠ 5:=by omega
   simp [tch,k1,k2,this]
  rw [e]
  have b5 : (s.Kind == 5) = false:=by simp; omega
  refine Ev.of_eq (g:=fun n=>(tree_Names n s.E).bind fun r5=>some r5) (fun n=>?_) (Ev.bind (tnames_ev.1 s.E h) (Ev.ret _))
  simp only [tree_Touches,jn,b1,b5,cond_false,Clip_string,sub_all,Option.bind_some]
  rcases k2 with k | k | k <;> rw [k] <;> rfl
 ·have b4 : (s.Kind == 4) = false:=by simp; omega
  have b6 : (s.Kind == 6) = false:=by simp; omega
  have b7 : (s.Kind == 7) = false:=by simp; omega
  by_cases k5 : s.Kind = 5
  ·have e : tch s = [] ++ [s.Other]:=by simp [tch,k5]
   rw [e]
   refine Ev.of_eq (g:=fun n=>some ([] ++ [s.Other])) (fun n=>?_) (Ev.ret _)
   have b5 : (s.Kind == 5) = true:=by simpa using k5
   simp only [tree_Touches,jn,b1,b4,b5,b6,b7,cond_false,cond_true,Clip_string,sub_all,Option.bind_some,r2]
  ·have e : tch s = []:=by
    have : ¬ (s.Kind = 1 ∨ s.Kind = 4 ∨ s.Kind = 6 ∨ s.Kind = 7):=by omega
    unfold tch; rw [if_neg this,if_neg k1,if_neg k5]; rfl
   rw [e]
   have b5 : (s.Kind == 5) = false:=by simpa using k5
   refine Ev.of_eq (g:=fun n=>some []) (fun n=>?_) (Ev.ret _)
   simp only [tree_Touches,jn,b1,b4,b5,b6,b7,cond_false,Clip_string,sub_all,Option.bind_some]
end Go.Su.YtepcmciljmennaaGreat
namespace Go.Su.YtepcmciljmennaaGreat
open Go.Mx Go.Proofs
set_option linter.unusedVariables false
set_option linter.unusedSimpArgs false
set_option maxHeartbeats 4000000
theorem bytesEq_comm (a b : ByteArray) : bytesEq a b = bytesEq b a:=by
 rw [bytesEq_eq,bytesEq_eq]; exact BEq.comm
def has (l : List ByteArray) (w : ByteArray) : Bool:=l.any fun x=>bytesEq x w
def hit (s : Stmt) (l : List ByteArray) : Bool:=(tch s).any (has l)
theorem Index_L0 (w : ByteArray) : ∀ (l pre : List ByteArray),(pre ++ l).length ≤ 4000000 → ∃ r,Ev (fun n=>Index_string_L0 n (pre ++ l) w pre.length) r ∧ decide (r ≥ 0) = has l w
 | [],pre,h=>⟨-1,Ev.step (Ev.of_eq (g:=fun n=>some (-1)) (fun n=>by simp only [Index_string_L0,List.append_nil,ix_ge,cond_false]) (Ev.ret _)),rfl⟩
 | x :: r,pre,h=>by
  have hp : pre.length + 1 ≤ 4000000:=by simp at h; omega
  cases hb : bytesEq w x
  ·obtain ⟨q,h1,h2⟩:=Index_L0 w r (pre ++ [x]) (by rw [← ix_cons]; exact h)
   refine ⟨q,Ev.step (Ev.of_eq (fun n=>?_) h1),by rw [h2]; simp [has,bytesEq_comm x w,hb]⟩
   simp only [Index_string_L0,ix_lt,ix_get,cond_true,Option.bind_some,hb,cond_false]
   rw [ix_wr pre x (by omega),← ix_cons]
  ·refine ⟨(pre.length : Int),Ev.step (Ev.of_eq (g:=fun n=>some (pre.length : Int)) (fun n=>?_) (Ev.ret _)),by simp [has,bytesEq_comm x w,hb]⟩
   simp only [Index_string_L0,ix_lt,ix_get,cond_true,Option.bind_some,hb]
theorem contains_ev (l : List ByteArray) (w : ByteArray) (h : l.length ≤ 4000000) : Ev (fun n=>cost_touches_1 n w l) (has l w):=by
 obtain ⟨r,h1,h2⟩:=Index_L0 w l [] (by simpa using h)
 have e : Ev (fun n=>Index_string n l w) r:=Ev.of_eq (fun n=>by simp only [Index_string]; rfl) h1
 exact Ev.of_eq (g:=fun n=>((Index_string n l w).bind fun r1=>some (decide (r1 ≥ 0))).bind fun r1=>some r1) (fun n=>by simp only [cost_touches_1,Contains_string]) (Ev.bind (Ev.bind e (Ev.ret _)) (by rw [h2]; exact Ev.ret _))
theorem IndexF_L0 (a1 : List ByteArray) (ha : a1.length ≤ 4000000) : ∀ (l pre : List ByteArray),(pre ++ l).length ≤ 4000000 → ∃ r,Ev (fun n=>IndexFunc_string_fcost_touches_1_L0 n (pre ++ l) a1 pre.length) r ∧ decide (r ≥ 0) = l.any (has a1)
 | [],pre,h=>⟨-1,Ev.step (Ev.of_eq (g:=fun n=>some (-1)) (fun n=>by simp only [IndexFunc_string_fcost_touches_1_L0,List.append_nil,ix_ge,cond_false]) (Ev.ret _)),rfl⟩
 | x :: r,pre,h=>by
  have hp : pre.length + 1 ≤ 4000000:=by simp at h; omega
  have hc:=contains_ev a1 x ha
  have base : ∀ n,IndexFunc_string_fcost_touches_1_L0 (n + 1) (pre ++ x :: r) a1 pre.length = (cost_touches_1 n x a1).bind fun r3=>bif r3 then some (pre.length : Int) else IndexFunc_string_fcost_touches_1_L0 n ((pre ++ [x]) ++ r) a1 ((pre ++ [x]).length):=by
   intro n
   simp only [IndexFunc_string_fcost_touches_1_L0,ix_lt,ix_get,cond_true,Option.bind_some]
   rw [ix_wr pre x (by omega),← ix_cons]
  cases hb : has a1 x
  ·obtain ⟨q,h1,h2⟩:=IndexF_L0 a1 ha r (pre ++ [x]) (by rw [← ix_cons]; exact h)
   exact ⟨q,Ev.step (Ev.of_eq base (Ev.bind hc (Ev.no hb h1))),by rw [h2]; simp [hb]⟩
  ·exact ⟨(pre.length : Int),Ev.step (Ev.of_eq base (Ev.bind hc (Ev.yes hb (Ev.ret _)))),by simp [hb]⟩
theorem tch_len (s : Stmt) : (tch s).length ≤ szE s.E + 1:=by
 have:=nm_len.1 s.E
 unfold tch
 rw [List.length_append]
 split <;> split <;> (try split) <;> simp <;> omega
theorem touches_ev (s : Stmt) (l : List ByteArray) (h : szE s.E ≤ 1000000) (hl : l.length ≤ 4000000) : Ev (fun n=>cost_touches n s l) (hit s l):=by
 have:=tch_len s
 obtain ⟨r,h1,h2⟩:=IndexF_L0 l hl (tch s) [] (by simp; omega)
 have e : Ev (fun n=>IndexFunc_string_fcost_touches_1 n (tch s) l) r:=Ev.of_eq (fun n=>by simp only [IndexFunc_string_fcost_touches_1]; rfl) h1
 refine Ev.of_eq (g:=fun n=>(tree_Touches n s).bind fun r1=>((IndexFunc_string_fcost_touches_1 n r1 l).bind fun r1=>some (decide (r1 ≥ 0))).bind fun r2=>some r2) (fun n=>by simp only [cost_touches,ContainsFunc_string_fcost_touches_1]) (Ev.bind (ttouch_ev s h) (Ev.bind (Ev.bind e (Ev.ret _)) ?_))
 rw [h2]; exact Ev.ret _
def wn (s : Stmt) : Nat:=(flat s.Body).length + (flat s.Else).length
theorem fl1_len (s : Stmt) : (fl1 s).length = wn s + 1:=by rw [fl1_eq]; simp [wn]
theorem size_ev (s : Stmt) (h : szS s ≤ 900000) : Ev (fun n=>cost_size n s) ((wn s + 1 : Nat) : Int):=by
 have e:=List_ev [] [[s]] (by simp only [szT,szSl]; omega)
 have hf : ln (flats [[s]]) = ((wn s + 1 : Nat) : Int):=by
  show ((flats [[s]]).length : Int) = _
  simp only [flats,flat,List.append_nil,fl1_len]
 exact Ev.of_eq (g:=fun n=>(tree_List n (Prog.mk [] [[s]])).bind fun r1=>some (ln r1)) (fun n=>by simp only [cost_size]) (Ev.bind e (by rw [hf]; exact Ev.ret _))
end Go.Su.YtepcmciljmennaaGreat
namespace Go.Su.YtepcmciljmennaaGreat
open Go.Mx Go.Proofs
set_option linter.unusedVariables false
set_option linter.unusedSimpArgs false
set_option maxHeartbeats 4000000
theorem rnames_ev : (∀ e,szE e ≤ 1000000 → Ev (fun n=>ref1_Names n e) (nmE e)) ∧
  ∀ l,∀ (k m : Int) (w : ByteArray) (l1 : List ByteArray) (pre : List Expr) (acc : List ByteArray),(pre ++ l).length ≤ 1000000 → acc.length + szEl l ≤ 1000000 → Ev (fun n=>ref1_Names_L0 n ⟨k,m,w,pre ++ l⟩ l1 acc pre.length) (acc ++ nmEl l):=by
 refine expr_ind ?_ ?_ ?_
 ·intro k m w l ih h
  rw [szE] at h
  have hl:=len_El l
  by_cases h2 : k = 2
  ·have b : (k == 2) = true:=by simpa using h2
   refine Ev.step (Ev.of_eq (g:=fun n=>ref1_Names_L0 n ⟨k,m,w,[] ++ l⟩ ([] ++ [w]) ([] ++ [w]) 0) (fun n=>?_) ?_)
   ·simp only [ref1_Names,jn,b,cond_true,roomW ([] : List ByteArray).length [w].length (by simp)]; rfl
   ·have:=ih k m w ([] ++ [w]) [] ([] ++ [w]) (by simp; omega) (by simp; omega)
    rw [nmE,if_pos h2]; exact this
  ·have b : (k == 2) = false:=by simpa using h2
   refine Ev.step (Ev.of_eq (g:=fun n=>ref1_Names_L0 n ⟨k,m,w,[] ++ l⟩ [] [] 0) (fun n=>?_) ?_)
   ·simp only [ref1_Names,jn,b,cond_false]; rfl
   ·have:=ih k m w [] [] [] (by simp; omega) (by simp; omega)
    rw [nmE,if_neg h2]; exact this
 ·intro k m w l1 pre acc hl h1
  refine Ev.step (Ev.of_eq (g:=fun n=>some acc) (fun n=>?_) (by simpa [nmEl] using Ev.ret acc))
  simp only [ref1_Names_L0,List.append_nil,ix_ge,cond_false]
 ·intro e r ihe ihr k m w l1 pre acc hl h1
  rw [szEl] at h1
  have hn:=nm_len.1 e
  have hp : pre.length ≤ 1000000:=by simp at hl; omega
  refine Ev.step (Ev.of_eq (g:=fun n=>(ref1_Names n e).bind fun r7=>bif room s_string.i1.bytes acc.length r7.length then ref1_Names_L0 n ⟨k,m,w,(pre ++ [e]) ++ r⟩ l1 (acc ++ r7) ((pre ++ [e]).length) else none) (fun n=>?_) (Ev.bind (ihe (by omega)) ?_))
  ·simp only [ref1_Names_L0,ix_lt,cond_true,ix_get,Option.bind_some]
   rw [ix_wr pre e (by omega),← ix_cons]
  ·simp only [roomW acc.length (nmE e).length (by omega),cond_true]
   have:=ihr k m w l1 (pre ++ [e]) (acc ++ nmE e) (by rw [← ix_cons]; exact hl) (by rw [List.length_append]; omega)
   rw [nmEl]; simpa using this
theorem rtouch_ev (s : Stmt) (h : szE s.E ≤ 1000000) : Ev (fun n=>ref1_Touches n s) (tch s):=by
 have hn:=nm_len.1 s.E
 have r1 : ∀ w : ByteArray,room s_string.i1.bytes (nmE s.E).length [w].length = true:=fun w=>roomW _ _ (by simp; omega)
 have r2 : ∀ w : ByteArray,room s_string.i1.bytes ([] : List ByteArray).length [w].length = true:=fun w=>roomW _ _ (by simp)
 by_cases k1 : s.Kind = 1
 ·have e : tch s = nmE s.E ++ [s.Name]:=by simp [tch,k1]
  rw [e]
  refine Ev.of_eq (g:=fun n=>(ref1_Names n s.E).bind fun r5=>bif room s_string.i1.bytes r5.length [s.Name].length then some (r5 ++ [s.Name]) else none) (fun n=>?_) (Ev.bind (rnames_ev.1 s.E h) ?_)
  ·simp only [ref1_Touches,jn,k1]; rfl
  ·simp only [r1,cond_true]; exact Ev.ret _
 have b1 : (s.Kind == 1) = false:=by simpa using k1
 by_cases k2 : s.Kind = 4 ∨ s.Kind = 6 ∨ s.Kind = 7
 ·have e : tch s = nmE s.E:=by
   have : s.Kind ≠ 5:=by omega
   simp [tch,k1,k2,this]
  rw [e]
  have b5 : (s.Kind == 5) = false:=by simp; omega
  refine Ev.of_eq (g:=fun n=>(ref1_Names n s.E).bind fun r5=>some r5) (fun n=>?_) (Ev.bind (rnames_ev.1 s.E h) (Ev.ret _))
  simp only [ref1_Touches,jn,b1,b5,cond_false]
  rcases k2 with k | k | k <;> rw [k] <;> rfl
 ·have b4 : (s.Kind == 4) = false:=by simp; omega
  have b6 : (s.Kind == 6) = false:=by simp; omega
  have b7 : (s.Kind == 7) = false:=by simp; omega
  by_cases k5 : s.Kind = 5
  ·have e : tch s = [] ++ [s.Other]:=by simp [tch,k5]
   rw [e]
   refine Ev.of_eq (g:=fun n=>some ([] ++ [s.Other])) (fun n=>?_) (Ev.ret _)
   have b5 : (s.Kind == 5) = true:=by simpa using k5
   simp only [ref1_Touches,jn,b1,b4,b5,b6,b7,cond_false,cond_true,r2]
  ·have e : tch s = []:=by
    have : ¬ (s.Kind = 1 ∨ s.Kind = 4 ∨ s.Kind = 6 ∨ s.Kind = 7):=by omega
    unfold tch; rw [if_neg this,if_neg k1,if_neg k5]; rfl
   rw [e]
   have b5 : (s.Kind == 5) = false:=by simpa using k5
   refine Ev.of_eq (g:=fun n=>some []) (fun n=>?_) (Ev.ret _)
   simp only [ref1_Touches,jn,b1,b4,b5,b6,b7,cond_false]
end Go.Su.YtepcmciljmennaaGreat
namespace Go.Su.YtepcmciljmennaaGreat
open Go.Mx Go.Proofs
set_option linter.unusedVariables false
set_option linter.unusedSimpArgs false
set_option maxHeartbeats 4000000
theorem roomS (a b : Nat) (h : a + b ≤ 3000000) : room s_Stmt.i1.bytes a b = true:=room_of (by
 have : s_Stmt.i1.bytes = 168:=rfl
 rw [this]; omega)
theorem rblock_ev : (∀ s : Stmt,szS s ≤ 1000000 → Ev (fun n=>ref1_block n s.Body) (flat s.Body) ∧ Ev (fun n=>ref1_block n s.Else) (flat s.Else)) ∧
  ∀ l,∀ (out : List Stmt) (pre : List Stmt),out.length + szSl l ≤ 1000000 → (pre ++ l).length ≤ 1000000 → Ev (fun n=>ref1_block_L0 n (pre ++ l) out pre.length) (out ++ flat l):=by
 refine stmt_ind ?_ ?_ ?_
 ·intro k w v m e b l a ihb ihl h
  rw [szS] at h
  have lb:=len_Sl b
  have ll:=len_Sl l
  exact ⟨Ev.step (Ev.of_eq (fun n=>by simp only [ref1_block]; rfl) (by simpa using ihb [] [] (by simp; omega) (by simp; omega))),
   Ev.step (Ev.of_eq (fun n=>by simp only [ref1_block]; rfl) (by simpa using ihl [] [] (by simp; omega) (by simp; omega)))⟩
 ·intro out pre h1 h2
  refine Ev.step (Ev.of_eq (g:=fun n=>some out) (fun n=>?_) (by simpa [flat] using Ev.ret out))
  simp only [ref1_block_L0,List.append_nil,ix_ge,cond_false]
 ·intro x r ihx ihr out pre h1 h2
  rw [szSl] at h1
  have hp : pre.length ≤ 1000000:=by simp at h2; omega
  have f1:=flat_len.1 x
  rw [fl1_eq] at f1
  simp only [List.length_cons,List.length_append] at f1
  have hx:=ihx (by omega)
  refine Ev.step (Ev.of_eq (g:=fun n=>(ref1_block n x.Body).bind fun r6=>bif room s_Stmt.i1.bytes (out ++ [x]).length r6.length then (ref1_block n x.Else).bind fun r9=>bif room s_Stmt.i1.bytes ((out ++ [x]) ++ r6).length r9.length then ref1_block_L0 n ((pre ++ [x]) ++ r) (((out ++ [x]) ++ r6) ++ r9) ((pre ++ [x]).length) else none else none) (fun n=>?_) (Ev.bind hx.1 ?_))
  ·simp only [ref1_block_L0,ix_lt,cond_true,ix_get,Option.bind_some,roomS out.length [x].length (by simp; omega)]
   rw [ix_wr pre x (by omega),← ix_cons]
  ·simp only [roomS (out ++ [x]).length (flat x.Body).length (by simp; omega),cond_true]
   refine Ev.bind hx.2 ?_
   simp only [roomS ((out ++ [x]) ++ flat x.Body).length (flat x.Else).length (by simp; omega),cond_true]
   have:=ihr (out ++ [x] ++ flat x.Body ++ flat x.Else) (pre ++ [x]) (by simp only [List.length_append,List.length_singleton]; omega) (by rw [← ix_cons]; exact h2)
   rw [flat,fl1_eq]
   simpa using this
theorem rblk_ev (l : List Stmt) (h : szSl l ≤ 1000000) : Ev (fun n=>ref1_block n l) (flat l):=by
 have hl:=len_Sl l
 exact Ev.step (Ev.of_eq (fun n=>by simp only [ref1_block]; rfl) (by simpa using rblock_ev.2 l [] [] (by simpa using h) (by simp; omega)))
theorem rList_L0 (D : List Decl) (ts : List (List Stmt)) (hz : szT ts ≤ 1000000) : ∀ (l pre : List (List Stmt)) (acc : List Stmt),ts = pre ++ l → acc ++ flats l = flats ts → acc.length + szT l ≤ 1000000 → Ev (fun n=>ref1_List_L0 n ⟨D,ts⟩ acc pre.length) (flats ts)
 | [],pre,acc,e,ea,h=>by
  rw [flats,List.append_nil] at ea
  subst ea
  rw [List.append_nil] at e
  refine Ev.step (Ev.of_eq (g:=fun n=>some (flats ts)) (fun n=>?_) (Ev.ret _))
  have l1 : decide ((pre.length : Int) < ln ts) = false:=by rw [e]; exact ix_ge _
  simp only [ref1_List_L0,l1,cond_false]
 | t :: r,pre,acc,e,ea,h=>by
  have hts:=len_T ts
  rw [szT] at h
  have hp : pre.length + 1 ≤ ts.length:=by rw [e]; simp
  have hf:=flat_len.2 t
  refine Ev.step (Ev.of_eq (g:=fun n=>(ref1_block n t).bind fun r4=>bif room s_Stmt.i1.bytes acc.length r4.length then ref1_List_L0 n ⟨D,ts⟩ (acc ++ r4) ((pre ++ [t]).length) else none) (fun n=>?_) (Ev.bind (rblk_ev t (by omega)) ?_))
  ·have l1 : decide ((pre.length : Int) < ln ts) = true:=by rw [e]; exact ix_lt _ _ _
   have l2 : idx ts (pre.length : Int) = some t:=by rw [e]; exact ix_get _ _ _
   simp only [ref1_List_L0,l1,l2,cond_true,Option.bind_some]
   rw [ix_wr pre t (by omega)]
  ·simp only [roomS acc.length (flat t).length (by omega),cond_true]
   exact rList_L0 D ts hz r (pre ++ [t]) (acc ++ flat t) (by rw [e]; exact ix_cons _ _ _) (by rw [← ea,flats]; simp) (by rw [List.length_append]; omega)
theorem rList_ev (D : List Decl) (ts : List (List Stmt)) (hz : szT ts ≤ 1000000) : Ev (fun n=>ref1_List n ⟨D,ts⟩) (flats ts) :=
 Ev.of_eq (fun n=>by simp only [ref1_List]; rfl) (rList_L0 D ts hz ts [] [] rfl rfl (by simpa using hz))
end Go.Su.YtepcmciljmennaaGreat
namespace Go.Su.YtepcmciljmennaaGreat
open Go.Mx Go.Proofs
set_option linter.unusedVariables false
set_option linter.unusedSimpArgs false
set_option maxHeartbeats 4000000
theorem hasName_L0 (w : ByteArray) : ∀ (l pre : List ByteArray),(pre ++ l).length ≤ 4000000 → Ev (fun n=>ref22_hasName_L0 n (pre ++ l) w pre.length) (has l w)
 | [],pre,h=>Ev.step (Ev.of_eq (g:=fun n=>some false) (fun n=>by simp only [ref22_hasName_L0,List.append_nil,ix_ge,cond_false]) (Ev.ret _))
 | x :: r,pre,h=>by
  have hp : pre.length + 1 ≤ 4000000:=by simp at h; omega
  cases hb : bytesEq x w
  ·have nx:=hasName_L0 w r (pre ++ [x]) (by rw [← ix_cons]; exact h)
   refine Ev.step (Ev.of_eq (fun n=>?_) (by simpa [has,hb] using nx))
   simp only [ref22_hasName_L0,ix_lt,ix_get,cond_true,Option.bind_some,hb,cond_false]
   rw [ix_wr pre x (by omega)]; simp
  ·refine Ev.step (Ev.of_eq (g:=fun n=>some true) (fun n=>?_) (by simpa [has,hb] using Ev.ret _))
   simp only [ref22_hasName_L0,ix_lt,ix_get,cond_true,Option.bind_some,hb]
theorem hasName_ev (l : List ByteArray) (w : ByteArray) (h : l.length ≤ 4000000) : Ev (fun n=>ref22_hasName n l w) (has l w) :=
 Ev.of_eq (fun n=>by simp only [ref22_hasName]; rfl) (hasName_L0 w l [] (by simpa using h))
theorem meets_L0 (s : Stmt) (a1 : List ByteArray) (ha : a1.length ≤ 4000000) : ∀ (l pre : List ByteArray),(pre ++ l).length ≤ 4000000 → Ev (fun n=>ref22_meets_L0 n s a1 (pre ++ l) pre.length) (l.any (has a1))
 | [],pre,h=>Ev.step (Ev.of_eq (g:=fun n=>some false) (fun n=>by simp only [ref22_meets_L0,List.append_nil,ix_ge,cond_false]) (Ev.ret _))
 | x :: r,pre,h=>by
  have hp : pre.length + 1 ≤ 4000000:=by simp at h; omega
  have hc:=hasName_ev a1 x ha
  have base : ∀ n,ref22_meets_L0 (n + 1) s a1 (pre ++ x :: r) pre.length = (ref22_hasName n a1 x).bind fun r4=>bif r4 then some true else ref22_meets_L0 n s a1 ((pre ++ [x]) ++ r) ((pre ++ [x]).length):=by
   intro n
   simp only [ref22_meets_L0,ix_lt,ix_get,cond_true,Option.bind_some]
   rw [ix_wr pre x (by omega),← ix_cons]
  cases hb : has a1 x
  ·have nx:=meets_L0 s a1 ha r (pre ++ [x]) (by rw [← ix_cons]; exact h)
   exact Ev.step (Ev.of_eq base (Ev.bind hc (Ev.no hb (by simpa [hb] using nx))))
  ·exact Ev.step (Ev.of_eq base (Ev.bind hc (Ev.yes hb (by simpa [hb] using Ev.ret _))))
theorem meets_ev (s : Stmt) (l : List ByteArray) (h : szE s.E ≤ 1000000) (hl : l.length ≤ 4000000) : Ev (fun n=>ref22_meets n s l) (hit s l):=by
 have:=tch_len s
 exact Ev.of_eq (g:=fun n=>(ref1_Touches n s).bind fun r1=>ref22_meets_L0 n s l r1 0) (fun n=>by simp only [ref22_meets]) (Ev.bind (rtouch_ev s h) (meets_L0 s l hl (tch s) [] (by simp; omega)))
theorem within_L1 (s : Stmt) (i1 i2 : Int) (hl : s.Else.length ≤ 1000000) : ∀ (l pre : List Stmt) (i : Nat),s.Else = pre ++ l → i + (flat l).length ≤ 4000000 → (∀ x ∈ l,Ev (fun n=>ref22_within n x) ((wn x : Nat) : Int)) →
  Ev (fun n=>ref22_within_L1 n s i1 i2 (i : Int) pre.length) ((i + (flat l).length : Nat) : Int)
 | [],pre,i,e,h,hx=>by
  rw [List.append_nil] at e
  exact Ev.step (Ev.of_eq (g:=fun n=>some (i : Int)) (fun n=>by simp only [ref22_within_L1,e,ix_ge,cond_false]) (by simpa [flat] using Ev.ret _))
 | x :: r,pre,i,e,h,hx=>by
  have hp : pre.length + 1 ≤ 1000000:=by rw [e] at hl; simp at hl; omega
  have hf : (flat (x :: r)).length = wn x + 1 + (flat r).length:=by rw [flat,List.length_append,fl1_len]
  have nx:=within_L1 s i1 i2 hl r (pre ++ [x]) (i + 1 + wn x) (by rw [e]; exact ix_cons _ _ _) (by omega) (fun y hy=>hx y (by simp [hy]))
  have w1 : wr (wr ((i : Int) + 1) + ((wn x : Nat) : Int)) = ((i + 1 + wn x : Nat) : Int):=by rw [wr_of (x:=(i : Int) + 1) (by omega),wr_of (by omega)]; omega
  refine Ev.step (Ev.of_eq (g:=fun n=>(ref22_within n x).bind fun r8=>ref22_within_L1 n s i1 i2 (wr (wr ((i : Int) + 1) + r8)) ((pre ++ [x]).length)) (fun n=>?_) (Ev.bind (hx x (by simp)) (by rw [w1,hf,show i + (wn x + 1 + (flat r).length) = i + 1 + wn x + (flat r).length by omega]; exact nx)))
  simp only [ref22_within_L1,e,ix_lt,ix_get,cond_true,Option.bind_some]
  rw [ix_wr pre x (by omega)]
theorem within_L0 (s : Stmt) (hb : s.Body.length ≤ 1000000) (hl : s.Else.length ≤ 1000000) (hE : ∀ x ∈ s.Else,Ev (fun n=>ref22_within n x) ((wn x : Nat) : Int)) : ∀ (l pre : List Stmt) (i : Nat),s.Body = pre ++ l → i + (flat l).length + (flat s.Else).length ≤ 4000000 → (∀ x ∈ l,Ev (fun n=>ref22_within n x) ((wn x : Nat) : Int)) →
  Ev (fun n=>ref22_within_L0 n s (i : Int) pre.length) ((i + (flat l).length + (flat s.Else).length : Nat) : Int)
 | [],pre,i,e,h,hx=>by
  rw [List.append_nil] at e
  have nx:=within_L1 s (i : Int) (pre.length : Int) hl s.Else [] i rfl (by omega) hE
  exact Ev.step (Ev.of_eq (fun n=>by simp only [ref22_within_L0,e,ix_ge,cond_false]; rfl) (by simpa [flat] using nx))
 | x :: r,pre,i,e,h,hx=>by
  have hp : pre.length + 1 ≤ 1000000:=by rw [e] at hb; simp at hb; omega
  have hf : (flat (x :: r)).length = wn x + 1 + (flat r).length:=by rw [flat,List.length_append,fl1_len]
  have nx:=within_L0 s hb hl hE r (pre ++ [x]) (i + 1 + wn x) (by rw [e]; exact ix_cons _ _ _) (by omega) (fun y hy=>hx y (by simp [hy]))
  have w1 : wr (wr ((i : Int) + 1) + ((wn x : Nat) : Int)) = ((i + 1 + wn x : Nat) : Int):=by rw [wr_of (x:=(i : Int) + 1) (by omega),wr_of (by omega)]; omega
  refine Ev.step (Ev.of_eq (g:=fun n=>(ref22_within n x).bind fun r4=>ref22_within_L0 n s (wr (wr ((i : Int) + 1) + r4)) ((pre ++ [x]).length)) (fun n=>?_) (Ev.bind (hx x (by simp)) (by rw [w1,hf,show i + (wn x + 1 + (flat r).length) + (flat s.Else).length = i + 1 + wn x + (flat r).length + (flat s.Else).length by omega]; exact nx)))
  simp only [ref22_within_L0,e,ix_lt,ix_get,cond_true,Option.bind_some]
  rw [ix_wr pre x (by omega)]
theorem within_all : (∀ s : Stmt,szS s ≤ 1000000 → Ev (fun n=>ref22_within n s) ((wn s : Nat) : Int)) ∧ ∀ l : List Stmt,szSl l ≤ 1000000 → ∀ x ∈ l,Ev (fun n=>ref22_within n x) ((wn x : Nat) : Int):=by
 refine stmt_ind ?_ (fun _ x hx=>by simp at hx) ?_
 ·intro k w v m e b l a hb hl h
  rw [szS] at h
  have l1:=len_Sl b
  have l2:=len_Sl l
  have f1:=flat_len.2 b
  have f2:=flat_len.2 l
  have nx:=within_L0 ⟨k,w,v,m,e,b,l,a⟩ (by simp only; omega) (by simp only; omega) (hl (by omega)) b [] 0 rfl (by simp only; omega) (hb (by omega))
  exact Ev.step (Ev.of_eq (fun n=>by simp only [ref22_within]; rfl) (by simpa [wn] using nx))
 ·intro s r h1 h2 h x hx
  rw [szSl] at h
  rcases List.mem_cons.1 hx with rfl | hx
  ·exact h1 (by omega)
  ·exact h2 (by omega) x hx
theorem Wrapped_L0 (p : Prog) (nm : List ByteArray) (hn : nm.length ≤ 4000000) (r1 : List Stmt) (hr : r1.length ≤ 900000) (hz : ∀ x ∈ r1,szS x ≤ 900000) : ∀ (m i : Nat) (acc : List Int),r1.length - i ≤ m → i ≤ 2000000 → acc.length + (r1.length - i) ≤ 1000000 → (∀ v ∈ acc,∃ k : Nat,k < r1.length ∧ v = k) →
  ∃ L,Ev (fun n=>cost_Wrapped_L0 n p nm r1 acc (i : Int)) L ∧ Ev (fun n=>ref22_Wrapped_L0 n p nm r1 acc (i : Int)) L ∧ L.length ≤ 1000000 ∧ ∀ v ∈ L,∃ k : Nat,k < r1.length ∧ v = k
 | m,i,acc,h1,h2,h3,h4=>by
  by_cases hi : i < r1.length
  ·match m,h1 with
   | 0,h1=>exact absurd h1 (by omega)
   | m + 1,h1 =>
    have d1 : decide ((i : Int) < ln r1) = true:=decide_eq_true (by show (i : Int) < (r1.length : Int); omega)
    have i1 : idx r1 (i : Int) = some r1[i]:=idx_of (by omega) (by rw [Int.toNat_natCast]; exact List.getElem?_eq_getElem hi)
    have hs:=hz _ (List.getElem_mem hi)
    have hE : szE r1[i].E ≤ 1000000:=by
     have : ∀ s : Stmt,szE s.E ≤ szS s:=by intro s; cases s; simp only [szS]; omega
     have:=this r1[i]; omega
    have hw:=flat_len.1 r1[i]
    rw [fl1_len] at hw
    have t1:=touches_ev r1[i] nm hE hn
    have t2:=meets_ev r1[i] nm hE hn
    cases c : hit r1[i] nm
    ·obtain ⟨L,k1,k2,k3⟩:=Wrapped_L0 p nm hn r1 hr hz m (i + 1) acc (by omega) (by omega) (by omega) h4
     have e3 : wr ((i : Int) + 1) = ((i + 1 : Nat) : Int):=by rw [wr_of (by omega)]; rfl
     refine ⟨L,Ev.step (Ev.of_eq (g:=fun n=>(cost_touches n r1[i] nm).bind fun r5=>bif r5 then (bif room s_int.i1.bytes acc.length [(i : Int)].length then (cost_size n r1[i]).bind fun r8=>cost_Wrapped_L0 n p nm r1 (acc ++ [(i : Int)]) (wr ((i : Int) + r8)) else none) else cost_Wrapped_L0 n p nm r1 acc ((i + 1 : Nat) : Int)) (fun n=>?_) (Ev.bind t1 (Ev.no c k1))),Ev.step (Ev.of_eq (g:=fun n=>(ref22_meets n r1[i] nm).bind fun r8=>bif r8 then (bif room s_int.i1.bytes acc.length [(i : Int)].length then (ref22_within n r1[i]).bind fun r11=>ref22_Wrapped_L0 n p nm r1 (acc ++ [(i : Int)]) (wr (wr ((i : Int) + r11) + 1)) else none) else ref22_Wrapped_L0 n p nm r1 acc ((i + 1 : Nat) : Int)) (fun n=>?_) (Ev.bind t2 (Ev.no c k2))),k3⟩
     ·simp only [cost_Wrapped_L0,d1,cond_true,i1,Option.bind_some,e3]
     ·simp only [ref22_Wrapped_L0,d1,cond_true,i1,Option.bind_some,jn,e3]
    ·obtain ⟨L,k1,k2,k3⟩:=Wrapped_L0 p nm hn r1 hr hz m (i + (wn r1[i] + 1)) (acc ++ [(i : Int)]) (by omega) (by omega) (by simp; omega) (fun v hv=>by
      rcases List.mem_append.1 hv with hv | hv
      ·exact h4 v hv
      ·rw [List.mem_singleton] at hv; exact ⟨i,hi,hv⟩)
     have e3 : wr ((i : Int) + ((wn r1[i] + 1 : Nat) : Int)) = ((i + (wn r1[i] + 1) : Nat) : Int):=by rw [wr_of (by omega)]; omega
     have e4 : wr (wr ((i : Int) + ((wn r1[i] : Nat) : Int)) + 1) = ((i + (wn r1[i] + 1) : Nat) : Int):=by rw [wr_of (x:=(i : Int) + ((wn r1[i] : Nat) : Int)) (by omega),wr_of (by omega)]; omega
     have q1:=size_ev r1[i] (by omega)
     have q2:=within_all.1 r1[i] (by omega)
     have rm : room s_int.i1.bytes acc.length [(i : Int)].length = true:=roomC _ _ (by simp; omega)
     refine ⟨L,Ev.step (Ev.of_eq (g:=fun n=>(cost_touches n r1[i] nm).bind fun r5=>bif r5 then (bif room s_int.i1.bytes acc.length [(i : Int)].length then (cost_size n r1[i]).bind fun r8=>cost_Wrapped_L0 n p nm r1 (acc ++ [(i : Int)]) (wr ((i : Int) + r8)) else none) else cost_Wrapped_L0 n p nm r1 acc (wr ((i : Int) + 1))) (fun n=>?_) (Ev.bind t1 (Ev.yes c (Ev.yes rm (Ev.bind q1 (by rw [e3]; exact k1)))))),Ev.step (Ev.of_eq (g:=fun n=>(ref22_meets n r1[i] nm).bind fun r8=>bif r8 then (bif room s_int.i1.bytes acc.length [(i : Int)].length then (ref22_within n r1[i]).bind fun r11=>ref22_Wrapped_L0 n p nm r1 (acc ++ [(i : Int)]) (wr (wr ((i : Int) + r11) + 1)) else none) else ref22_Wrapped_L0 n p nm r1 acc (wr ((i : Int) + 1))) (fun n=>?_) (Ev.bind t2 (Ev.yes c (Ev.yes rm (Ev.bind q2 (by rw [e4]; exact k2)))))),k3⟩
     ·simp only [cost_Wrapped_L0,d1,cond_true,i1,Option.bind_some]
     ·simp only [ref22_Wrapped_L0,d1,cond_true,i1,Option.bind_some,jn]
  ·have d1 : decide ((i : Int) < ln r1) = false:=decide_eq_false (by show ¬ (i : Int) < (r1.length : Int); omega)
   have hc : ∀ n,Clip_int n acc = some acc:=fun n=>by simp only [Clip_int,sub_all,Option.bind_some]
   exact ⟨acc,Ev.step (Ev.of_eq (g:=fun n=>some acc) (fun n=>by simp only [cost_Wrapped_L0,d1,cond_false,hc,Option.bind_some]) (Ev.ret _)),Ev.step (Ev.of_eq (g:=fun n=>some acc) (fun n=>by simp only [ref22_Wrapped_L0,d1,cond_false]) (Ev.ret _)),by omega,h4⟩
theorem Wrapped_ev (D : List Decl) (ts : List (List Stmt)) (nm : List ByteArray) (hn : nm.length ≤ 4000000) (hz : szT ts ≤ 100000) : ∃ L,Ev (fun n=>cost_Wrapped n ⟨D,ts⟩ nm) L ∧ Ev (fun n=>ref22_Wrapped n ⟨D,ts⟩ nm) L ∧ L.length ≤ 1000000 ∧ ∀ v ∈ L,∃ k : Nat,k < (flats ts).length ∧ v = k:=by
 have l1:=len_T ts
 obtain ⟨L,k1,k2,k3⟩:=Wrapped_L0 ⟨D,ts⟩ nm hn (flats ts) (by omega) (fun x hx=>by have:=sz_flats ts x hx; omega) (flats ts).length 0 [] (by omega) (by omega) (by simp; omega) (by simp)
 exact ⟨L,Ev.of_eq (g:=fun n=>(tree_List n ⟨D,ts⟩).bind fun r1=>cost_Wrapped_L0 n ⟨D,ts⟩ nm r1 [] 0) (fun n=>by simp only [cost_Wrapped]) (Ev.bind (List_ev D ts (by omega)) k1),Ev.of_eq (g:=fun n=>(ref1_List n ⟨D,ts⟩).bind fun r1=>ref22_Wrapped_L0 n ⟨D,ts⟩ nm r1 [] 0) (fun n=>by simp only [ref22_Wrapped]) (Ev.bind (rList_ev D ts (by omega)) k2),k3⟩
end Go.Su.YtepcmciljmennaaGreat
namespace Go.Su.YtepcmciljmennaaGreat
open Go.Mx Go.Proofs
set_option linter.unusedVariables false
set_option linter.unusedSimpArgs false
set_option maxHeartbeats 4000000
def nx (w k m : Int) : Int:=bif (k == 8) then wr (w * m) else w
mutual
def wgS : Stmt → Int → List Int
 | ⟨k,_,_,m,_,b,l,_⟩,w=>w :: (wgL b (nx w k m) ++ wgL l (nx w k m))
def wgL : List Stmt → Int → List Int
 | [],_=>[]
 | s :: r,w=>wgS s w ++ wgL r w
end
theorem wgS_eq (s : Stmt) (w : Int) : wgS s w = w :: (wgL s.Body (nx w s.Kind s.N) ++ wgL s.Else (nx w s.Kind s.N)):=by cases s; rw [wgS]
theorem wg_len : (∀ s : Stmt,∀ w,(wgS s w).length = (fl1 s).length) ∧ ∀ l : List Stmt,∀ w,(wgL l w).length = (flat l).length:=by
 refine stmt_ind ?_ (fun w=>by simp [flat,wgL]) ?_
 ·intro k v u m e b l a h1 h2 w
  rw [fl1,wgS]; simp only [List.length_cons,List.length_append,h1,h2]
 ·intro s r h1 h2 w
  rw [flat,wgL,List.length_append,List.length_append,h1,h2]
theorem wg_le (l : List Stmt) (w : Int) : (wgL l w).length ≤ szSl l:=by
 rw [wg_len.2]; exact flat_len.2 l
theorem weigh_all : (∀ s : Stmt,(∀ (out : List Int) (w : Int),out.length + szSl s.Body ≤ 1000000 → Ev (fun n=>cost_weigh_o n out s.Body w) (out ++ wgL s.Body w)) ∧ ∀ (out : List Int) (w : Int),out.length + szSl s.Else ≤ 1000000 → Ev (fun n=>cost_weigh_o n out s.Else w) (out ++ wgL s.Else w)) ∧
  ∀ l,∀ (a0 out : List Int) (w : Int) (pre : List Stmt),out.length + szSl l ≤ 1000000 → (pre ++ l).length ≤ 1000000 → Ev (fun n=>cost_weigh_o_L0 n a0 (pre ++ l) w out pre.length) (out ++ wgL l w):=by
 refine stmt_ind ?_ ?_ ?_
 ·intro k v u m e b l a ihb ihl
  have lb:=len_Sl b
  have ll:=len_Sl l
  exact ⟨fun out w h=>Ev.step (Ev.of_eq (fun n=>by simp only [cost_weigh_o]; rfl) (ihb out out w [] (by omega) (by simp only [List.nil_append]; simp only at h; omega))),
   fun out w h=>Ev.step (Ev.of_eq (fun n=>by simp only [cost_weigh_o]; rfl) (ihl out out w [] (by omega) (by simp only [List.nil_append]; simp only at h; omega)))⟩
 ·intro a0 out w pre h1 h2
  refine Ev.step (Ev.of_eq (g:=fun n=>some out) (fun n=>?_) (by simpa [wgL] using Ev.ret out))
  simp only [cost_weigh_o_L0,List.append_nil,ix_ge,cond_false]
 ·intro x r ihx ihr a0 out w pre h1 h2
  rw [szSl] at h1
  have hp : pre.length ≤ 1000000:=by simp at h2; omega
  have hx:=szS_parts x
  have lb:=wg_le x.Body (nx w x.Kind x.N)
  have le:=wg_le x.Else (nx w x.Kind x.N)
  refine Ev.step (Ev.of_eq (g:=fun n=>(cost_weigh_o n (out ++ [w]) x.Body (nx w x.Kind x.N)).bind fun r7=>(cost_weigh_o n r7 x.Else (nx w x.Kind x.N)).bind fun r8=>cost_weigh_o_L0 n a0 ((pre ++ [x]) ++ r) w r8 ((pre ++ [x]).length)) (fun n=>?_) (Ev.bind (ihx.1 _ _ (by simp; omega)) (Ev.bind (ihx.2 _ _ (by simp; omega)) ?_)))
  ·simp only [cost_weigh_o_L0,ix_lt,cond_true,ix_get,Option.bind_some,roomC out.length [w].length (by simp; omega),jn,nx]
   rw [ix_wr pre x (by omega),← ix_cons]
   cases (x.Kind == 8) <;> rfl
  ·have:=ihr a0 (out ++ [w] ++ wgL x.Body (nx w x.Kind x.N) ++ wgL x.Else (nx w x.Kind x.N)) w (pre ++ [x]) (by simp; omega) (by rw [← ix_cons]; exact h2)
   rw [wgL,wgS_eq]
   simpa using this
theorem weigho_ev (l : List Stmt) (out : List Int) (w : Int) (h : out.length + szSl l ≤ 1000000) : Ev (fun n=>cost_weigh_o n out l w) (out ++ wgL l w):=by
 have:=len_Sl l
 exact Ev.step (Ev.of_eq (fun n=>by simp only [cost_weigh_o]; rfl) (weigh_all.2 l out out w [] h (by simp only [List.nil_append]; omega)))
theorem rweigh_all : (∀ s : Stmt,(∀ (w : Int),szSl s.Body ≤ 1000000 → Ev (fun n=>ref22_weigh n s.Body w) (wgL s.Body w)) ∧ ∀ (w : Int),szSl s.Else ≤ 1000000 → Ev (fun n=>ref22_weigh n s.Else w) (wgL s.Else w)) ∧
  ∀ l,∀ (out : List Int) (w : Int) (pre : List Stmt),out.length + szSl l ≤ 1000000 → (pre ++ l).length ≤ 1000000 → Ev (fun n=>ref22_weigh_L0 n (pre ++ l) w out pre.length) (out ++ wgL l w):=by
 refine stmt_ind ?_ ?_ ?_
 ·intro k v u m e b l a ihb ihl
  have lb:=len_Sl b
  have ll:=len_Sl l
  exact ⟨fun w h=>Ev.step (Ev.of_eq (fun n=>by simp only [ref22_weigh]; rfl) (by simpa using ihb [] w [] (by simpa using h) (by simp only [List.nil_append]; simp only at h; omega))),
   fun w h=>Ev.step (Ev.of_eq (fun n=>by simp only [ref22_weigh]; rfl) (by simpa using ihl [] w [] (by simpa using h) (by simp only [List.nil_append]; simp only at h; omega)))⟩
 ·intro out w pre h1 h2
  refine Ev.step (Ev.of_eq (g:=fun n=>some out) (fun n=>?_) (by simpa [wgL] using Ev.ret out))
  simp only [ref22_weigh_L0,List.append_nil,ix_ge,cond_false]
 ·intro x r ihx ihr out w pre h1 h2
  rw [szSl] at h1
  have hp : pre.length ≤ 1000000:=by simp at h2; omega
  have hx:=szS_parts x
  have lb:=wg_le x.Body (nx w x.Kind x.N)
  have le:=wg_le x.Else (nx w x.Kind x.N)
  refine Ev.step (Ev.of_eq (g:=fun n=>(ref22_weigh n x.Body (nx w x.Kind x.N)).bind fun r9=>bif room s_int.i1.bytes (out ++ [w]).length r9.length then
    (ref22_weigh n x.Else (nx w x.Kind x.N)).bind fun r12=>bif room s_int.i1.bytes ((out ++ [w]) ++ r9).length r12.length then ref22_weigh_L0 n ((pre ++ [x]) ++ r) w (((out ++ [w]) ++ r9) ++ r12) ((pre ++ [x]).length) else none else none) (fun n=>?_)
   (Ev.bind (ihx.1 _ (by omega)) (Ev.yes (roomC _ _ (by simp; omega)) (Ev.bind (ihx.2 _ (by omega)) (Ev.yes (roomC _ _ (by simp; omega)) ?_)))))
  ·simp only [ref22_weigh_L0,ix_lt,cond_true,ix_get,Option.bind_some,roomC out.length [w].length (by simp; omega),jn,nx]
   rw [ix_wr pre x (by omega),← ix_cons]
   cases (x.Kind == 8) <;> rfl
  ·have:=ihr (out ++ [w] ++ wgL x.Body (nx w x.Kind x.N) ++ wgL x.Else (nx w x.Kind x.N)) w (pre ++ [x]) (by simp; omega) (by rw [← ix_cons]; exact h2)
   rw [wgL,wgS_eq]
   simpa using this
theorem rweigh_ev (l : List Stmt) (w : Int) (h : szSl l ≤ 1000000) : Ev (fun n=>ref22_weigh n l w) (wgL l w):=by
 have:=len_Sl l
 exact Ev.step (Ev.of_eq (fun n=>by simp only [ref22_weigh]; rfl) (by simpa using rweigh_all.2 l [] w [] (by simpa using h) (by simp only [List.nil_append]; omega)))
def wgT : List (List Stmt) → List Int
 | []=>[]
 | t :: r=>wgL t 1 ++ wgT r
theorem wgT_len : ∀ ts,(wgT ts).length = (flats ts).length
 | []=>rfl
 | t :: r=>by rw [wgT,flats,List.length_append,List.length_append,wg_len.2,wgT_len r]
theorem Weights_L0 (D : List Decl) (ts : List (List Stmt)) (h2 : ts.length ≤ 100000) : ∀ (l pre : List (List Stmt)) (acc : List Int),ts = pre ++ l → acc.length + szT l ≤ 1000000 → Ev (fun n=>cost_Weights_L0 n ⟨D,ts⟩ acc pre.length) (acc ++ wgT l)
 | [],pre,acc,e,h=>by
  rw [List.append_nil] at e; subst e
  have hs : ∀ n,Clip_int n acc = some acc:=fun n=>by simp only [Clip_int,sub_all,Option.bind_some]
  exact Ev.step (Ev.of_eq (g:=fun n=>some acc) (fun n=>by simp only [cost_Weights_L0,ix_ge,cond_false,hs,Option.bind_some]) (by simpa [wgT] using Ev.ret acc))
 | t :: r,pre,acc,e,h=>by
  rw [szT] at h
  have lt:=wg_le t 1
  have hp : pre.length + 1 ≤ 100000:=by rw [e] at h2; simp at h2; omega
  have next:=Weights_L0 D ts h2 r (pre ++ [t]) (acc ++ wgL t 1) (by rw [e]; exact ix_cons _ _ _) (by simp; omega)
  subst e
  refine Ev.step (Ev.of_eq (g:=fun n=>(cost_weigh_o n acc t 1).bind fun r4=>cost_Weights_L0 n ⟨D,pre ++ t :: r⟩ r4 ((pre ++ [t]).length)) (fun n=>?_) (Ev.bind (weigho_ev t acc 1 (by omega)) (by simpa [wgT] using next)))
  simp only [cost_Weights_L0,ix_lt,cond_true,ix_get,Option.bind_some]
  rw [ix_wr pre t (by omega)]
theorem Weights_ev (D : List Decl) (ts : List (List Stmt)) (h : szT ts ≤ 100000) : Ev (fun n=>cost_Weights n ⟨D,ts⟩) (wgT ts):=by
 have:=len_T ts
 exact Ev.of_eq (fun n=>by simp only [cost_Weights]; rfl) (by simpa using Weights_L0 D ts (by omega) ts [] [] rfl (by simp; omega))
theorem rWeights_L0 (D : List Decl) (ts : List (List Stmt)) (h2 : ts.length ≤ 100000) : ∀ (l pre : List (List Stmt)) (acc : List Int),ts = pre ++ l → acc.length + szT l ≤ 1000000 → Ev (fun n=>ref22_Weights_L0 n ⟨D,ts⟩ acc pre.length) (acc ++ wgT l)
 | [],pre,acc,e,h=>by
  rw [List.append_nil] at e; subst e
  exact Ev.step (Ev.of_eq (g:=fun n=>some acc) (fun n=>by simp only [ref22_Weights_L0,ix_ge,cond_false]) (by simpa [wgT] using Ev.ret acc))
 | t :: r,pre,acc,e,h=>by
  rw [szT] at h
  have lt:=wg_le t 1
  have hp : pre.length + 1 ≤ 100000:=by rw [e] at h2; simp at h2; omega
  have next:=rWeights_L0 D ts h2 r (pre ++ [t]) (acc ++ wgL t 1) (by rw [e]; exact ix_cons _ _ _) (by simp; omega)
  subst e
  refine Ev.step (Ev.of_eq (g:=fun n=>(ref22_weigh n t 1).bind fun r4=>bif room s_int.i1.bytes acc.length r4.length then ref22_Weights_L0 n ⟨D,pre ++ t :: r⟩ (acc ++ r4) ((pre ++ [t]).length) else none) (fun n=>?_) (Ev.bind (rweigh_ev t 1 (by omega)) (Ev.yes (roomC _ _ (by omega)) (by simpa [wgT] using next))))
  simp only [ref22_Weights_L0,ix_lt,cond_true,ix_get,Option.bind_some]
  rw [ix_wr pre t (by omega)]
theorem rWeights_ev (D : List Decl) (ts : List (List Stmt)) (h : szT ts ≤ 100000) : Ev (fun n=>ref22_Weights n ⟨D,ts⟩) (wgT ts):=by
 have:=len_T ts
 exact Ev.of_eq (fun n=>by simp only [ref22_Weights]; rfl) (by simpa using rWeights_L0 D ts (by omega) ts [] [] rfl (by simp; omega))
end Go.Su.YtepcmciljmennaaGreat
namespace Go.Su.YtepcmciljmennaaGreat
open Go.Mx Go.Proofs
set_option linter.unusedVariables false
set_option linter.unusedSimpArgs false
set_option maxHeartbeats 4000000
theorem idxS_of (s : ByteArray) (i : Nat) (h : i < s.size) : ∃ x,idxS s (i : Int) = some x ∧ 0 ≤ x ∧ x ≤ 255:=by
 refine ⟨(s[i].toNat : Int),?_,by omega,by have:=s[i].toNat_lt; omega⟩
 unfold idxS
 have h1 : decide ((i : Int) < 0) = false:=decide_eq_false (by omega)
 rw [h1,cond_false,Int.toNat_natCast,getElem?_pos s i h]; rfl
theorem ssub_of (s : ByteArray) (a b : Nat) (h1 : a ≤ b) (h2 : b ≤ s.size) : ∃ w,ssub s (a : Int) (b : Int) = some w ∧ w.size = b - a:=by
 refine ⟨exS s a b,?_,?_⟩
 ·unfold ssub
  have : (decide ((0 : Int) ≤ a) && decide ((a : Int) ≤ b) && decide ((b : Int) ≤ s.size)) = true:=by simp; omega
  rw [this]; simp
 ·rw [exS_eq,ByteArray.size_extract]; omega
theorem letter_ev (x : Int) : ∃ b,∀ n,ref1_letter n x = some b:=by
 unfold ref1_letter jn
 cases decide (x ≥ 97)
 ·exact ⟨false,fun _=>rfl⟩
 ·exact ⟨decide (x ≤ 122),fun _=>rfl⟩
theorem digit_ev (x : Int) : ∃ b,∀ n,ref1_digit n x = some b:=by
 unfold ref1_digit jn
 cases decide (x ≥ 48)
 ·exact ⟨false,fun _=>rfl⟩
 ·exact ⟨decide (x ≤ 57),fun _=>rfl⟩
theorem number_L0 (s : ByteArray) (hs : s.size ≤ 6000) : ∀ (j i : Nat) (v : Int),s.size - i ≤ j → i ≤ s.size → 0 ≤ v → v ≤ 9223372036854775807 → ∃ r b,Ev (fun n=>ref1_number_L0 n s v (i : Int)) (r,b) ∧ 0 ≤ r:=by
 intro j
 induction j with
 | zero =>
  intro i v hj hi h0 h1
  have hlt : decide ((i : Int) < (s.size : Int)) = false:=decide_eq_false (by omega)
  cases hb : bytesEq s b0
  ·have hsz : 0 < s.size:=by
    rcases Nat.eq_zero_or_pos s.size with h | h
    ·have : s = b0:=by
      cases s with | mk a=>cases a with | mk l =>
      cases l with
      | nil=>rfl
      | cons x r=>simp [ByteArray.size] at h
     rw [this] at hb; simp [bytesEq_eq] at hb
    ·exact h
   obtain ⟨x,hx,_⟩:=idxS_of s 0 hsz
   have hx' : idxS s 0 = some x:=hx
   cases hq : (x != 48)
   ·exact ⟨v,bytesEq s x_30,Ev.step (Ev.of_eq (g:=fun n=>some (v,bytesEq s x_30)) (fun n=>by simp only [ref1_number_L0,hlt,cond_false,jn,hb,Bool.not_false,cond_true,hx',Option.bind_some,hq]) (Ev.ret _)),h0⟩
   ·exact ⟨v,true,Ev.step (Ev.of_eq (g:=fun n=>some (v,true)) (fun n=>by simp only [ref1_number_L0,hlt,cond_false,jn,hb,Bool.not_false,cond_true,hx',Option.bind_some,hq]) (Ev.ret _)),h0⟩
  ·exact ⟨v,false,Ev.step (Ev.of_eq (g:=fun n=>some (v,false)) (fun n=>by simp only [ref1_number_L0,hlt,cond_false,jn,hb,Bool.not_true]) (Ev.ret _)),h0⟩
 | succ j ih =>
  intro i v hj hi h0 h1
  by_cases hlt : i < s.size
  ·have d1 : decide ((i : Int) < (s.size : Int)) = true:=decide_eq_true (by omega)
   obtain ⟨x,hx,x0,x1⟩:=idxS_of s i hlt
   have hd0 : 0 ≤ IntKind.u8.wrap (x - 48) ∧ IntKind.u8.wrap (x - 48) ≤ 255:=by
    simp only [IntKind.wrap,IntKind.bits,IntKind.signed,Bool.false_and,Bool.false_eq_true,if_false]
    omega
   have hw : wr (IntKind.u8.wrap (x - 48)) = IntKind.u8.wrap (x - 48):=wr_of (by omega)
   generalize hdef : IntKind.u8.wrap (x - 48) = d at hd0 hw
   have hw2 : wr (9223372036854775807 - d) = 9223372036854775807 - d:=wr_of (by omega)
   have ht : (9223372036854775807 - d).tdiv 10 = (9223372036854775807 - d) / 10:=Int.tdiv_eq_ediv_of_nonneg (by omega)
   have hw3 : wr ((9223372036854775807 - d) / 10) = (9223372036854775807 - d) / 10:=wr_of (by omega)
   by_cases hbig : v > (9223372036854775807 - d) / 10
   ·refine ⟨0,false,Ev.step (Ev.of_eq (g:=fun n=>some (0,false)) (fun n=>?_) (Ev.ret _)),Int.le_refl _⟩
    simp only [ref1_number_L0,d1,cond_true,hx,Option.bind_some,hdef,hw,hw2,ht,hw3,decide_eq_true hbig]
   ·have hv : 10 * v + d ≤ 9223372036854775807:=by omega
    obtain ⟨r,b,k1,k2⟩:=ih (i + 1) (10 * v + d) (by omega) (by omega) (by omega) hv
    refine ⟨r,b,Ev.step (Ev.of_eq (fun n=>?_) k1),k2⟩
    have e1 : wr (10 * v) = 10 * v:=wr_of (by omega)
    have e2 : wr (10 * v + d) = 10 * v + d:=wr_of (by omega)
    have e3 : wr ((i : Int) + 1) = ((i + 1 : Nat) : Int):=by rw [wr_of (by omega)]; rfl
    simp only [ref1_number_L0,d1,cond_true,hx,Option.bind_some,hdef,hw,hw2,ht,hw3,decide_eq_false hbig,cond_false,e1,e2,e3]
  ·obtain ⟨r,b,k1,k2⟩ : ∃ r b,Ev (fun n=>ref1_number_L0 n s v (i : Int)) (r,b) ∧ 0 ≤ r:=by
    have : s.size - i ≤ j:=by omega
    exact ih i v this hi h0 h1
   exact ⟨r,b,k1,k2⟩
theorem number_ev (s : ByteArray) (hs : s.size ≤ 6000) : ∃ r b,Ev (fun n=>ref1_number n s) (r,b) ∧ 0 ≤ r:=by
 obtain ⟨r,b,k1,k2⟩:=number_L0 s hs s.size 0 0 (by omega) (by omega) (by omega) (by omega)
 exact ⟨r,b,Ev.of_eq (fun n=>by simp only [ref1_number]; rfl) k1,k2⟩
def okOne (s : ByteArray) (i : Nat) (t : Token) (k : Int) : Prop:=k = 0 ∨ (1 ≤ k ∧ (i : Int) + k ≤ s.size ∧ 1 ≤ t.Kind ∧ t.Kind ≤ 3 ∧ 0 ≤ t.N)
theorem one_L0 (s : ByteArray) (hs : s.size ≤ 6000) (at_ : Nat) (x1 : Int) (r2 : Bool) (w4 : ByteArray) : ∀ (j i : Nat),s.size - i ≤ j → at_ + 1 ≤ i → i ≤ s.size → ∃ t k,Ev (fun n=>ref1_one_L0 n s at_ x1 r2 w4 (i : Int)) (t,k) ∧ okOne s at_ t k:=by
 intro j
 induction j with
 | zero =>
  intro i hj h1 hi
  have hlt : decide ((i : Int) < (s.size : Int)) = false:=decide_eq_false (by omega)
  have e : wr ((i : Int) - (at_ : Int)) = (i : Int) - at_:=wr_of (by omega)
  obtain ⟨w,hw,_⟩:=ssub_of s at_ i (by omega) hi
  by_cases hb : (i : Int) - at_ > 12
  ·exact ⟨_,_,Ev.step (Ev.of_eq (g:=fun n=>some (⟨0,b0,0,0⟩,0)) (fun n=>by simp only [ref1_one_L0,jn,hlt,cond_false,e,decide_eq_true hb,cond_true]) (Ev.ret _)),.inl rfl⟩
  ·exact ⟨_,_,Ev.step (Ev.of_eq (g:=fun n=>some (⟨1,w,0,at_⟩,(i : Int) - at_)) (fun n=>by simp only [ref1_one_L0,jn,hlt,cond_false,e,decide_eq_false hb,hw,Option.bind_some]) (Ev.ret _)),.inr ⟨by omega,by omega,by simp,by simp,by simp⟩⟩
 | succ j ih =>
  intro i hj h1 hi
  have e : wr ((i : Int) - (at_ : Int)) = (i : Int) - at_:=wr_of (by omega)
  have e3 : wr ((i : Int) + 1) = ((i + 1 : Nat) : Int):=by rw [wr_of (by omega)]; rfl
  obtain ⟨w,hw,_⟩:=ssub_of s at_ i (by omega) hi
  by_cases hlt : i < s.size
  ·have d1 : decide ((i : Int) < (s.size : Int)) = true:=decide_eq_true (by omega)
   obtain ⟨x,hx,_⟩:=idxS_of s i hlt
   obtain ⟨bl,hbl⟩:=letter_ev x
   obtain ⟨bd,hbd⟩:=digit_ev x
   obtain ⟨t,k,k1,k2⟩:=ih (i + 1) (by omega) (by omega) (by omega)
   cases bl
   ·cases bd
    ·by_cases hb : (i : Int) - at_ > 12
     ·exact ⟨_,_,Ev.step (Ev.of_eq (g:=fun n=>some (⟨0,b0,0,0⟩,0)) (fun n=>by simp only [ref1_one_L0,jn,d1,cond_true,hx,Option.bind_some,hbl,hbd,cond_false,e,decide_eq_true hb]) (Ev.ret _)),.inl rfl⟩
     ·exact ⟨_,_,Ev.step (Ev.of_eq (g:=fun n=>some (⟨1,w,0,at_⟩,(i : Int) - at_)) (fun n=>by simp only [ref1_one_L0,jn,d1,cond_true,hx,Option.bind_some,hbl,hbd,cond_false,e,decide_eq_false hb,hw]) (Ev.ret _)),.inr ⟨by omega,by omega,by simp,by simp,by simp⟩⟩
    ·exact ⟨t,k,Ev.step (Ev.of_eq (fun n=>by simp only [ref1_one_L0,jn,d1,cond_true,hx,Option.bind_some,hbl,hbd,cond_false,e3]) k1),k2⟩
   ·exact ⟨t,k,Ev.step (Ev.of_eq (fun n=>by simp only [ref1_one_L0,jn,d1,cond_true,hx,Option.bind_some,hbl,e3]) k1),k2⟩
  ·exact ih i (by omega) h1 hi
theorem one_L1 (s : ByteArray) (hs : s.size ≤ 6000) (at_ : Nat) (x1 : Int) (r2 r13 : Bool) (w4 : ByteArray) : ∀ (j i : Nat),s.size - i ≤ j → at_ + 1 ≤ i → i ≤ s.size → ∃ t k,Ev (fun n=>ref1_one_L1 n s at_ x1 r2 r13 w4 (i : Int)) (t,k) ∧ okOne s at_ t k:=by
 have fin : ∀ i : Nat,at_ + 1 ≤ i → i ≤ s.size → ∃ t k,Ev (fun n=>(ssub s (at_ : Int) (i : Int)).bind fun w21=>(ref1_number n w21).bind fun r22=>bif !r22.2 then some (Token.mk 0 b0 0 0,0) else (ssub s (at_ : Int) (i : Int)).bind fun w23=>some (Token.mk 2 w23 r22.1 at_,wr ((i : Int) - at_))) (t,k) ∧ okOne s at_ t k:=by
  intro i h1 hi
  have e : wr ((i : Int) - (at_ : Int)) = (i : Int) - at_:=wr_of (by omega)
  obtain ⟨w,hw,hsz⟩:=ssub_of s at_ i (by omega) hi
  obtain ⟨r,b,k1,k2⟩:=number_ev w (by omega)
  simp only [hw,Option.bind_some,e]
  cases b
  ·exact ⟨_,_,Ev.bind k1 (Ev.ret _),.inl rfl⟩
  ·exact ⟨_,_,Ev.bind k1 (Ev.ret _),.inr ⟨by omega,by omega,by simp,by simp,by simpa using k2⟩⟩
 intro j
 induction j with
 | zero =>
  intro i hj h1 hi
  have hlt : decide ((i : Int) < (s.size : Int)) = false:=decide_eq_false (by omega)
  obtain ⟨t,k,k1,k2⟩:=fin i h1 hi
  exact ⟨t,k,Ev.step (Ev.of_eq (fun n=>by simp only [ref1_one_L1,jn,hlt,cond_false]) k1),k2⟩
 | succ j ih =>
  intro i hj h1 hi
  have e3 : wr ((i : Int) + 1) = ((i + 1 : Nat) : Int):=by rw [wr_of (by omega)]; rfl
  by_cases hlt : i < s.size
  ·have d1 : decide ((i : Int) < (s.size : Int)) = true:=decide_eq_true (by omega)
   obtain ⟨x,hx,_⟩:=idxS_of s i hlt
   obtain ⟨bd,hbd⟩:=digit_ev x
   cases bd
   ·obtain ⟨t,k,k1,k2⟩:=fin i h1 hi
    exact ⟨t,k,Ev.step (Ev.of_eq (fun n=>by simp only [ref1_one_L1,jn,d1,cond_true,hx,Option.bind_some,hbd,cond_false]) k1),k2⟩
   ·obtain ⟨t,k,k1,k2⟩:=ih (i + 1) (by omega) (by omega) (by omega)
    exact ⟨t,k,Ev.step (Ev.of_eq (fun n=>by simp only [ref1_one_L1,jn,d1,cond_true,hx,Option.bind_some,hbd,e3]) k1),k2⟩
  ·exact ih i (by omega) h1 hi
theorem one_L2 (s : ByteArray) (hs : s.size ≤ 6000) (at_ : Nat) (hat : at_ < s.size) (x1 : Int) (r2 r13 b25 : Bool) (w4 : ByteArray) : ∀ (j i : Nat),11 - i ≤ j → i ≤ 11 → ∃ t k,Ev (fun n=>ref1_one_L2 n s at_ x1 r2 r13 w4 b25 (i : Int)) (t,k) ∧ okOne s at_ t k:=by
 intro j
 induction j with
 | zero =>
  intro i hj hi
  have : i = 11:=by omega
  subst this
  exact ⟨_,_,Ev.step (Ev.of_eq (g:=fun n=>some (⟨0,b0,0,0⟩,0)) (fun n=>by simp only [ref1_one_L2]; rfl) (Ev.ret _)),.inl rfl⟩
 | succ j ih =>
  intro i hj hi
  by_cases hlt : i < 11
  ·have d1 : decide ((i : Int) < 11) = true:=decide_eq_true (by omega)
   have e3 : wr ((i : Int) + 1) = ((i + 1 : Nat) : Int):=by rw [wr_of (by omega)]; rfl
   obtain ⟨x,hx,_⟩:=idxS_of x_3d3c2b2d2a2f2528297b7d i (show i < 11 from hlt)
   have e4 : wr ((at_ : Int) + 1) = ((at_ + 1 : Nat) : Int):=by rw [wr_of (by omega)]; rfl
   obtain ⟨w,hw,_⟩:=ssub_of s at_ (at_ + 1) (by omega) (by omega)
   cases hq : (x == x1)
   ·obtain ⟨t,k,k1,k2⟩:=ih (i + 1) (by omega) (by omega)
    exact ⟨t,k,Ev.step (Ev.of_eq (fun n=>by simp only [ref1_one_L2,d1,cond_true,hx,Option.bind_some,hq,cond_false,e3]) k1),k2⟩
   ·exact ⟨_,_,Ev.step (Ev.of_eq (g:=fun n=>some (⟨3,w,0,at_⟩,1)) (fun n=>by simp only [ref1_one_L2,d1,cond_true,hx,Option.bind_some,hq,e4,hw]) (Ev.ret _)),.inr ⟨by omega,by omega,by simp,by simp,by simp⟩⟩
  ·exact ih i (by omega) hi
theorem one_ev (s : ByteArray) (hs : s.size ≤ 6000) (at_ : Nat) (h : at_ < s.size) : ∃ t k,Ev (fun n=>ref1_one n s (at_ : Int)) (t,k) ∧ okOne s at_ t k:=by
 obtain ⟨x,hx,_⟩:=idxS_of s at_ h
 obtain ⟨bl,hbl⟩:=letter_ev x
 obtain ⟨bd,hbd⟩:=digit_ev x
 have e4 : wr ((at_ : Int) + 1) = ((at_ + 1 : Nat) : Int):=by rw [wr_of (by omega)]; rfl
 cases bl
 ·cases bd
  ·have l2 : ∀ w b,∃ t k,Ev (fun n=>ref1_one_L2 n s at_ x false false w b 0) (t,k) ∧ okOne s at_ t k:=fun w b=>one_L2 s hs at_ h x false false b w 11 0 (by omega) (by omega)
   cases hq : (x == 61)
   ·obtain ⟨t,k,k1,k2⟩:=l2 b0 false
    exact ⟨t,k,Ev.of_eq (fun n=>by simp only [ref1_one,hx,Option.bind_some,hbl,hbd,cond_false,jn,hq]) k1,k2⟩
   ·by_cases hlt : at_ + 1 < s.size
    ·have d1 : decide (((at_ + 1 : Nat) : Int) < (s.size : Int)) = true:=decide_eq_true (by omega)
     obtain ⟨y,hy,_⟩:=idxS_of s (at_ + 1) hlt
     cases hz : (y == 61)
     ·obtain ⟨t,k,k1,k2⟩:=l2 b0 false
      exact ⟨t,k,Ev.of_eq (fun n=>by simp only [ref1_one,hx,Option.bind_some,hbl,hbd,cond_false,cond_true,jn,hq,e4,d1,hy,hz]) k1,k2⟩
     ·exact ⟨_,_,Ev.of_eq (g:=fun n=>some (⟨3,x_3d3d,0,at_⟩,2)) (fun n=>by simp only [ref1_one,hx,Option.bind_some,hbl,hbd,cond_false,cond_true,jn,hq,e4,d1,hy,hz]) (Ev.ret _),.inr ⟨by omega,by omega,by simp,by simp,by simp⟩⟩
    ·have d1 : decide (((at_ + 1 : Nat) : Int) < (s.size : Int)) = false:=decide_eq_false (by omega)
     obtain ⟨t,k,k1,k2⟩:=l2 b0 false
     exact ⟨t,k,Ev.of_eq (fun n=>by simp only [ref1_one,hx,Option.bind_some,hbl,hbd,cond_false,cond_true,jn,hq,e4,d1]) k1,k2⟩
  ·obtain ⟨t,k,k1,k2⟩:=one_L1 s hs at_ x false true b0 s.size (at_ + 1) (by omega) (by omega) (by omega)
   exact ⟨t,k,Ev.of_eq (fun n=>by simp only [ref1_one,hx,Option.bind_some,hbl,hbd,cond_false,cond_true,e4]) k1,k2⟩
 ·obtain ⟨t,k,k1,k2⟩:=one_L0 s hs at_ x true b0 s.size (at_ + 1) (by omega) (by omega) (by omega)
  exact ⟨t,k,Ev.of_eq (fun n=>by simp only [ref1_one,hx,Option.bind_some,hbl,cond_true,e4]) k1,k2⟩
structure GoodT (T : List Token) : Prop where
 len : T.length ≤ 6001
 pos : 0 < T.length
 last : ∀ i t,T[i]? = some t → t.Kind ≠ 4 → i + 1 < T.length
 num : ∀ t ∈ T,0 ≤ t.N
theorem toks_L (s : ByteArray) (hs : s.size ≤ 6000) : ∀ (j i : Nat),s.size - i ≤ j → i ≤ s.size → ∀ l : List Token,l.length ≤ i → (∀ t ∈ l,0 ≤ t.N) →
  (∃ T k e,Ev (fun n=>ref1_Tokens_L0 n s l (i : Int)) (T,k,e) ∧ (e ≠ 0 ∨ GoodT T)):=by
 intro j
 have fin : ∀ (i : Nat),i = s.size → ∀ l : List Token,l.length ≤ i → (∀ t ∈ l,0 ≤ t.N) → (∃ T k e,Ev (fun n=>ref1_Tokens_L0 n s l (i : Int)) (T,k,e) ∧ (e ≠ 0 ∨ GoodT T)):=by
  intro i hi l hl hn
  have hlt : decide ((i : Int) < (s.size : Int)) = false:=decide_eq_false (by omega)
  have hr : room s_Token.i1.bytes l.length [(Token.mk 4 b0 0 (i : Int))].length = true:=room_of (by
   have : s_Token.i1.bytes = 40:=rfl
   rw [this]; simp only [List.length_singleton]; omega)
  refine ⟨_,_,_,Ev.step (Ev.of_eq (g:=fun n=>some (l ++ [(Token.mk 4 b0 0 (i : Int))],0,0)) (fun n=>by simp only [ref1_Tokens_L0,hlt,cond_false,hr,cond_true]) (Ev.ret _)),.inr ⟨by simp; omega,by simp,?_,?_⟩⟩
  ·intro q t hq hk
   rcases Nat.lt_or_ge q l.length with h | h
   ·simp; omega
   ·rw [List.getElem?_append_right h] at hq
    have : q - l.length = 0:=by
     rcases Nat.eq_zero_or_pos (q - l.length) with h | h
     ·exact h
     ·rw [List.getElem?_eq_none (by simp; omega)] at hq; cases hq
    rw [this] at hq
    simp at hq; subst hq; simp at hk
  ·intro t ht
   rcases List.mem_append.1 ht with h | h
   ·exact hn t h
   ·rw [List.mem_singleton.1 h]; simp
 induction j with
 | zero=>intro i hj hi l hl hn; exact fin i (by omega) l hl hn
 | succ j ih =>
  intro i hj hi l hl hn
  by_cases hlt : i < s.size
  ·have d1 : decide ((i : Int) < (s.size : Int)) = true:=decide_eq_true (by omega)
   have e3 : wr ((i : Int) + 1) = ((i + 1 : Nat) : Int):=by rw [wr_of (by omega)]; rfl
   obtain ⟨x,hx,_⟩:=idxS_of s i hlt
   have blank : ∃ T k e,Ev (fun n=>ref1_Tokens_L0 n s l (wr ((i : Int) + 1))) (T,k,e) ∧ (e ≠ 0 ∨ GoodT T):=by
    rw [e3]; exact ih (i + 1) (by omega) (by omega) l (by omega) hn
   by_cases hbl : x = 32 ∨ x = 9 ∨ x = 10
   ·obtain ⟨T,k,e,k1,k2⟩:=blank
    refine ⟨T,k,e,Ev.step (Ev.of_eq (fun n=>?_) k1),k2⟩
    rcases hbl with h | h | h <;> subst h <;> simp only [ref1_Tokens_L0,d1,cond_true,hx,Option.bind_some,jn] <;> rfl
   have b1 : (x == 32) = false:=by simp; omega
   have b2 : (x == 9) = false:=by simp; omega
   have b3 : (x == 10) = false:=by simp; omega
   cases hc : (x == 35)
   ·
    obtain ⟨t,k,k1,k2⟩:=one_ev s hs i hlt
    rcases k2 with rfl | ⟨q1,q2,q3,q4,q5⟩
    ·exact ⟨[],(i : Int),2,Ev.step (Ev.of_eq (g:=fun n=>(ref1_one n s (i : Int)).bind fun r10=>bif (r10.2 == 0) then some ([],(i : Int),2) else bif room s_Token.i1.bytes l.length [r10.1].length then ref1_Tokens_L0 n s (l ++ [r10.1]) (wr ((i : Int) + r10.2)) else none)
      (fun n=>by simp only [ref1_Tokens_L0,d1,cond_true,hx,Option.bind_some,jn,b1,b2,b3,cond_false,hc]) (Ev.bind k1 (Ev.ret _))),.inl (by omega)⟩
    ·have hk : (k == 0) = false:=by simp; omega
     have hr : room s_Token.i1.bytes l.length [t].length = true:=room_of (by
      have : s_Token.i1.bytes = 40:=rfl
      rw [this]; simp only [List.length_singleton]; omega)
     obtain ⟨T,k',e,m1,m2⟩:=ih (i + k.toNat) (by omega) (by omega) (l ++ [t]) (by simp; omega) (by
      intro y hy
      rcases List.mem_append.1 hy with h | h
      ·exact hn y h
      ·rw [List.mem_singleton.1 h]; exact q5)
     have e5 : wr ((i : Int) + k) = ((i + k.toNat : Nat) : Int):=by rw [wr_of (by omega)]; omega
     refine ⟨T,k',e,Ev.step (Ev.of_eq (g:=fun n=>(ref1_one n s (i : Int)).bind fun r10=>bif (r10.2 == 0) then some ([],(i : Int),2) else bif room s_Token.i1.bytes l.length [r10.1].length then ref1_Tokens_L0 n s (l ++ [r10.1]) (wr ((i : Int) + r10.2)) else none)
      (fun n=>by simp only [ref1_Tokens_L0,d1,cond_true,hx,Option.bind_some,jn,b1,b2,b3,cond_false,hc]) (Ev.bind k1 ?_)),m2⟩
     simp only [hk,cond_false,hr,cond_true,e5]
     exact m1
   ·
    have hx35 : x = 35:=by simpa using hc
    have note : ∀ (q p : Nat),s.size - p ≤ q → i ≤ p → p ≤ s.size → (p = i ∨ i < p) → ∃ T k e,Ev (fun n=>ref1_Tokens_L1 n s l (i : Int) x false (p : Int)) (T,k,e) ∧ (e ≠ 0 ∨ GoodT T):=by
     intro q
     induction q with
     | zero =>
      intro p hq h1 h2 h3
      have d2 : decide ((p : Int) < (s.size : Int)) = false:=decide_eq_false (by omega)
      obtain ⟨T,k,e,m1,m2⟩:=ih p (by omega) (by omega) l (by omega) hn
      exact ⟨T,k,e,Ev.step (Ev.of_eq (fun n=>by simp only [ref1_Tokens_L1,jn,d2,cond_false]) m1),m2⟩
     | succ q ihq =>
      intro p hq h1 h2 h3
      by_cases hp : p < s.size
      ·have d2 : decide ((p : Int) < (s.size : Int)) = true:=decide_eq_true (by omega)
       have e6 : wr ((p : Int) + 1) = ((p + 1 : Nat) : Int):=by rw [wr_of (by omega)]; rfl
       obtain ⟨y,hy,_⟩:=idxS_of s p hp
       cases hn10 : (y != 10)
       ·have hpi : i < p:=by
         rcases h3 with h | h
         ·subst h
          rw [hx] at hy; cases hy
          rw [hx35] at hn10; simp at hn10
         ·exact h
        obtain ⟨T,k,e,m1,m2⟩:=ih p (by omega) (by omega) l (by omega) hn
        exact ⟨T,k,e,Ev.step (Ev.of_eq (fun n=>by simp only [ref1_Tokens_L1,jn,d2,cond_true,hy,Option.bind_some,hn10,cond_false]) m1),m2⟩
       ·obtain ⟨T,k,e,m1,m2⟩:=ihq (p + 1) (by omega) (by omega) (by omega) (.inr (by omega))
        exact ⟨T,k,e,Ev.step (Ev.of_eq (fun n=>by simp only [ref1_Tokens_L1,jn,d2,cond_true,hy,Option.bind_some,hn10,e6]) m1),m2⟩
      ·exact ihq p (by omega) h1 h2 h3
    obtain ⟨T,k,e,m1,m2⟩:=note s.size i (by omega) (Nat.le_refl _) hi (.inl rfl)
    exact ⟨T,k,e,Ev.step (Ev.of_eq (fun n=>by simp only [ref1_Tokens_L0,d1,cond_true,hx,Option.bind_some,jn,b1,b2,b3,cond_false,hc]) m1),m2⟩
  ·exact fin i (by omega) l hl hn
theorem toks_ev (s : ByteArray) : ∃ T k e,Ev (fun n=>ref1_Tokens n s) (T,k,e) ∧ (e ≠ 0 ∨ (GoodT T ∧ s.size ≤ 6000)):=by
 by_cases h : s.size ≤ 6000
 ·obtain ⟨T,k,e,k1,k2⟩:=toks_L s h s.size 0 (by omega) (by omega) [] (by simp) (by simp)
  have d : decide ((s.size : Int) > 6000) = false:=decide_eq_false (by omega)
  exact ⟨T,k,e,Ev.of_eq (fun n=>by simp only [ref1_Tokens,d,cond_false]; rfl) k1,k2.imp id fun h'=>⟨h',h⟩⟩
 ·have d : decide ((s.size : Int) > 6000) = true:=decide_eq_true (by omega)
  exact ⟨_,_,_,Ev.of_eq (g:=fun n=>some ([],6000,2)) (fun n=>by simp only [ref1_Tokens,d,cond_true]) (Ev.ret _),.inl (by omega)⟩
def okA (z : Cx) : Prop:=∃ p q : Nat,p ≤ 6100 ∧ q ≤ 6100 ∧ z = ⟨FloatKind.f64.nearest p,FloatKind.f64.nearest q⟩
theorem spot_L0 (s : ByteArray) (a1 : Int) (m : Nat) (hm : m ≤ s.size) (hs : s.size ≤ 6000) : ∀ (j i : Nat) (p q : Nat),m - i ≤ j → i ≤ m → p ≤ i + 1 → q ≤ i + 1 → ∃ p' q' : Nat,p' ≤ 6001 ∧ q' ≤ 6001 ∧ Ev (fun n=>ref1_Spot_L0 n s a1 (m : Int) (p : Int) (q : Int) (i : Int)) ((p' : Int),(q' : Int)):=by
 intro j
 induction j with
 | zero =>
  intro i p q hj hi hp hq
  have d : decide ((i : Int) < (m : Int)) = false:=decide_eq_false (by omega)
  exact ⟨p,q,by omega,by omega,Ev.step (Ev.of_eq (g:=fun n=>some ((p : Int),(q : Int))) (fun n=>by simp only [ref1_Spot_L0,d,cond_false]) (Ev.ret _))⟩
 | succ j ih =>
  intro i p q hj hi hp hq
  by_cases h : i < m
  ·have d : decide ((i : Int) < (m : Int)) = true:=decide_eq_true (by omega)
   have e3 : wr ((i : Int) + 1) = ((i + 1 : Nat) : Int):=by rw [wr_of (by omega)]; rfl
   have e4 : wr ((p : Int) + 1) = ((p + 1 : Nat) : Int):=by rw [wr_of (by omega)]; rfl
   have e5 : wr ((q : Int) + 1) = ((q + 1 : Nat) : Int):=by rw [wr_of (by omega)]; rfl
   obtain ⟨x,hx,_⟩:=idxS_of s i (by omega)
   cases hc : (x == 10)
   ·obtain ⟨p',q',k0,k1,k2⟩:=ih (i + 1) p (q + 1) (by omega) (by omega) (by omega) (by omega)
    exact ⟨p',q',k0,k1,Ev.step (Ev.of_eq (fun n=>by simp only [ref1_Spot_L0,d,cond_true,jn,hx,Option.bind_some,hc,cond_false,e3,e5]) k2)⟩
   ·obtain ⟨p',q',k0,k1,k2⟩:=ih (i + 1) (p + 1) 1 (by omega) (by omega) (by omega) (by omega)
    exact ⟨p',q',k0,k1,Ev.step (Ev.of_eq (fun n=>by simp only [ref1_Spot_L0,d,cond_true,jn,hx,Option.bind_some,hc,e3,e4]; rfl) k2)⟩
  ·exact ih i p q (by omega) hi hp hq
theorem place_ev (s : ByteArray) (hs : s.size ≤ 6000) (a : Int) : ∃ z,Ev (fun n=>ref1_Place n s a) z ∧ okA z:=by
 obtain ⟨m,hm,e⟩ : ∃ m : Nat,m ≤ s.size ∧ gomax 0 (gomin (s.size : Int) a) = (m : Int):=by
  refine ⟨(gomax 0 (gomin (s.size : Int) a)).toNat,?_,?_⟩ <;> rw [gomax_eq,gomin_eq] <;> omega
 obtain ⟨p,q,k0,k1,k2⟩:=spot_L0 s a m hm hs m 0 1 1 (by omega) (by omega) (by omega) (by omega)
 refine ⟨_,Ev.of_eq (g:=fun n=>(ref1_Spot_L0 n s a (m : Int) 1 1 0).bind fun r1=>some (⟨FloatKind.f64.nearest r1.1,FloatKind.f64.nearest r1.2⟩ : Cx)) (fun n=>?_) (Ev.bind k2 (Ev.ret _)),p,q,by omega,by omega,rfl⟩
 simp only [ref1_Place,ref1_Spot,ref1_Within,e,Option.bind_some]
theorem keyword_L0 (w : ByteArray) : ∀ (j i : Nat),17 - i ≤ j → i ≤ 17 → ∃ b,Ev (fun n=>ref1_Keyword_L0 n w (i : Int)) b:=by
 intro j
 induction j with
 | zero =>
  intro i hj hi
  have d : decide ((i : Int) < 17) = false:=decide_eq_false (by omega)
  exact ⟨false,Ev.step (Ev.of_eq (g:=fun n=>some false) (fun n=>by simp only [ref1_Keyword_L0,d,cond_false]) (Ev.ret _))⟩
 | succ j ih =>
  intro i hj hi
  by_cases h : i < 17
  ·have d : decide ((i : Int) < 17) = true:=decide_eq_true (by omega)
   have e3 : wr ((i : Int) + 1) = ((i + 1 : Nat) : Int):=by rw [wr_of (by omega)]; rfl
   obtain ⟨x,hx⟩ : ∃ x,idx [k_var,k_wide,k_atomic,k_local,k_mutex,k_chan,k_go,k_lock,k_unlock,k_send,k_recv,k_print,k_if,k_else,k_repeat,k_goto,k_label] (i : Int) = some x :=
    ⟨_,idx_of (by omega) (by rw [Int.toNat_natCast]; exact List.getElem?_eq_getElem (by simpa using h))⟩
   cases hq : bytesEq w x
   ·obtain ⟨b,k1⟩:=ih (i + 1) (by omega) (by omega)
    exact ⟨b,Ev.step (Ev.of_eq (fun n=>by simp only [ref1_Keyword_L0,d,cond_true,hx,Option.bind_some,hq,cond_false,e3]) k1)⟩
   ·exact ⟨true,Ev.step (Ev.of_eq (g:=fun n=>some true) (fun n=>by simp only [ref1_Keyword_L0,d,cond_true,hx,Option.bind_some,hq]) (Ev.ret _))⟩
  ·exact ih i (by omega) hi
theorem keyword_ev (w : ByteArray) : ∃ b,Ev (fun n=>ref1_Keyword n w) b:=by
 obtain ⟨b,h⟩:=keyword_L0 w 17 0 (by omega) (by omega)
 exact ⟨b,Ev.of_eq (fun n=>by simp only [ref1_Keyword]; rfl) h⟩
theorem declKind_L0 (w : ByteArray) : ∀ (j i : Nat),6 - i ≤ j → i ≤ 6 → ∃ b,Ev (fun n=>ref1_declKind_L0 n w (i : Int)) b ∧ 0 ≤ b ∧ b ≤ 6:=by
 intro j
 induction j with
 | zero =>
  intro i hj hi
  have d : decide ((i : Int) < 6) = false:=decide_eq_false (by omega)
  exact ⟨0,Ev.step (Ev.of_eq (g:=fun n=>some 0) (fun n=>by simp only [ref1_declKind_L0,d,cond_false]) (Ev.ret _)),by omega,by omega⟩
 | succ j ih =>
  intro i hj hi
  by_cases h : i < 6
  ·have d : decide ((i : Int) < 6) = true:=decide_eq_true (by omega)
   have e3 : wr ((i : Int) + 1) = ((i + 1 : Nat) : Int):=by rw [wr_of (by omega)]; rfl
   obtain ⟨x,hx⟩ : ∃ x,idx [k_var,k_wide,k_atomic,k_local,k_mutex,k_chan] (i : Int) = some x :=
    ⟨_,idx_of (by omega) (by rw [Int.toNat_natCast]; exact List.getElem?_eq_getElem (by simpa using h))⟩
   cases hq : bytesEq w x
   ·obtain ⟨b,k1,k2⟩:=ih (i + 1) (by omega) (by omega)
    exact ⟨b,Ev.step (Ev.of_eq (fun n=>by simp only [ref1_declKind_L0,d,cond_true,hx,Option.bind_some,hq,cond_false,e3]) k1),k2⟩
   ·exact ⟨wr (1 + i),Ev.step (Ev.of_eq (g:=fun n=>some (wr (1 + i))) (fun n=>by simp only [ref1_declKind_L0,d,cond_true,hx,Option.bind_some,hq]) (Ev.ret _)),by rw [wr_of (by omega)]; omega,by rw [wr_of (by omega)]; omega⟩
  ·exact ih i (by omega) hi
theorem declKind_ev (w : ByteArray) : ∃ b,Ev (fun n=>ref1_declKind n w) b ∧ 0 ≤ b ∧ b ≤ 6:=by
 obtain ⟨b,h,h2⟩:=declKind_L0 w 6 0 (by omega) (by omega)
 exact ⟨b,Ev.of_eq (fun n=>by simp only [ref1_declKind]; rfl) h,h2⟩
end Go.Su.YtepcmciljmennaaGreat
