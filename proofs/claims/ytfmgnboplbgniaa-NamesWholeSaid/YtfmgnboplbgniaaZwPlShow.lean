/-
  Programs out of raw numbers are shown: to an end, in not too long a text.
-/
import Derived.Test.YtfmgnboplbgniaaZwPlTreeL
import Derived.KernelRfl
import Derived.Test.YtfmgnboplbgniaaZwPlIx
import Derived.Test.YtfmgnboplbgniaaZwPlTree
namespace Go.Su.Ytfmgnboplbgniaa
open Go.Mx Go.Proofs
set_option linter.unusedVariables false
set_option linter.unusedSimpArgs false
set_option maxHeartbeats 4000000
def fnd : Nat → List Decl → ByteArray → Int
 | _,[],_=>-1
 | i,d :: r,w=>if bytesEq d.Name w = true then (i : Int) else fnd (i + 1) r w
def knd : List Decl → ByteArray → Int
 | [],_=>0
 | d :: r,w=>if bytesEq d.Name w = true then d.Kind else knd r w
theorem fnd_knd : ∀ (l : List Decl) (i : Nat) (w : ByteArray),(fnd i l w = -1 ∧ knd l w = 0) ∨ ∃ (k : Nat) (d : Decl),fnd i l w = ((i + k : Nat) : Int) ∧ l[k]? = some d ∧ knd l w = d.Kind
 | [],i,w=>.inl ⟨rfl,rfl⟩
 | d :: r,i,w=>by
  rw [fnd,knd]
  split
  ·exact .inr ⟨0,d,rfl,rfl,rfl⟩
  ·rcases fnd_knd r (i + 1) w with h | ⟨k,d',h1,h2,h3⟩
   ·exact .inl h
   ·exact .inr ⟨k + 1,d',by rw [h1]; congr 1; omega,by simpa using h2,h3⟩
theorem tfind_L0 (w : ByteArray) : ∀ (l pre : List Decl),(pre ++ l).length ≤ 1000000 → Ev (fun n=>IndexFunc_Decl_fnames_Find_1_L0 n (pre ++ l) w pre.length) (fnd pre.length l w)
 | [],pre,h=>Ev.step (Ev.of_eq (g:=fun n=>some (-1)) (fun n=>by simp only [IndexFunc_Decl_fnames_Find_1_L0,List.append_nil,ix_ge,cond_false]) (Ev.ret _))
 | d :: r,pre,h=>by
  have hp : pre.length + 1 ≤ 1000000:=by simp at h; omega
  rw [fnd]
  cases hb : bytesEq d.Name w
  ·have nx:=tfind_L0 w r (pre ++ [d]) (by rw [← ix_cons]; exact h)
   refine Ev.step (Ev.of_eq (fun n=>?_) (by simpa using nx))
   simp only [IndexFunc_Decl_fnames_Find_1_L0,ix_lt,ix_get,cond_true,Option.bind_some,names_Find_1,hb,cond_false]
   rw [ix_wr pre d (by omega)]; simp
  ·refine Ev.step (Ev.of_eq (g:=fun n=>some (pre.length : Int)) (fun n=>?_) (by simpa using Ev.ret _))
   simp only [IndexFunc_Decl_fnames_Find_1_L0,ix_lt,ix_get,cond_true,Option.bind_some,names_Find_1,hb]
theorem tfind_ev (D : List Decl) (ts : List (List Stmt)) (w : ByteArray) (h : D.length ≤ 1000000) : Ev (fun n=>names_Find n ⟨D,ts⟩ w) (fnd 0 D w) :=
 Ev.of_eq (g:=fun n=>(IndexFunc_Decl_fnames_Find_1_L0 n D w 0).bind fun r1=>some r1) (fun n=>by simp only [names_Find,IndexFunc_Decl_fnames_Find_1]) (Ev.bind (tfind_L0 w D [] (by simpa using h)) (Ev.ret _))
theorem kind_ev (D : List Decl) (ts : List (List Stmt)) (w : ByteArray) (h : D.length ≤ 1000000) : Ev (fun n=>names_kind n ⟨D,ts⟩ w) (knd D w):=by
 refine Ev.of_eq (g:=fun n=>(names_Find n ⟨D,ts⟩ w).bind fun r1=>bif decide (r1 < 0) then some 0 else (idx D r1).bind fun x2=>some x2.Kind) (fun n=>by simp only [names_kind]) (Ev.bind (tfind_ev D ts w h) ?_)
 rcases fnd_knd D 0 w with ⟨h1,h2⟩ | ⟨k,d,h1,h2,h3⟩
 ·rw [h1,h2]; exact Ev.yes rfl (Ev.ret _)
 ·have hi : idx D (fnd 0 D w) = some d:=by rw [h1,Nat.zero_add]; exact idx_of (by omega) (by rw [Int.toNat_natCast]; exact h2)
  rw [h3]
  exact Ev.no (decide_eq_false (by omega)) (Ev.opt hi (Ev.ret _))
def shd (k : Int) : Bool:=(k == 1) || ((k == 2) || (k == 3))
theorem tshared (n : Nat) (k : Int) : names_Shared n k = some (shd k):=by
 unfold names_Shared jn shd
 cases (k == 1) <;> cases (k == 2) <;> rfl
def okW (D : List Decl) (w : ByteArray) : Bool:=shd (knd D w) || (knd D w == 4)
def okN (D : List Decl) (s : Stmt) : Bool:=bif (s.Kind == 2) || (s.Kind == 3) then knd D s.Name == 5 else bif (s.Kind == 4) || (s.Kind == 5) then knd D s.Name == 6 else true
def rgt (D : List Decl) (s : Stmt) : Bool:=(tch s).all (okW D) && okN D s
theorem right_L0 (D : List Decl) (ts : List (List Stmt)) (h : D.length ≤ 1000000) (s : Stmt) : ∀ (l pre : List ByteArray),(pre ++ l).length ≤ 3000000 → Ev (fun n=>names_right_L0 n ⟨D,ts⟩ s (pre ++ l) pre.length) (l.all (okW D) && okN D s)
 | [],pre,hl=>by
  have k1:=kind_ev D ts s.Name h
  rw [List.all_nil,Bool.true_and]
  unfold okN
  cases c2 : (s.Kind == 2)
  ·cases c3 : (s.Kind == 3)
   ·cases c4 : (s.Kind == 4)
    ·cases c5 : (s.Kind == 5)
     ·exact Ev.step (Ev.of_eq (g:=fun n=>some true) (fun n=>by simp only [names_right_L0,List.append_nil,ix_ge,cond_false,jn,c2,c3,c4,c5]) (Ev.ret _))
     ·exact Ev.step (Ev.of_eq (g:=fun n=>(names_kind n ⟨D,ts⟩ s.Name).bind fun r10=>some (r10 == 6)) (fun n=>by simp only [names_right_L0,List.append_nil,ix_ge,cond_false,cond_true,jn,c2,c3,c4,c5]) (Ev.bind k1 (Ev.ret _)))
    ·exact Ev.step (Ev.of_eq (g:=fun n=>(names_kind n ⟨D,ts⟩ s.Name).bind fun r10=>some (r10 == 6)) (fun n=>by simp only [names_right_L0,List.append_nil,ix_ge,cond_false,cond_true,jn,c2,c3,c4]) (Ev.bind k1 (Ev.ret _)))
   ·exact Ev.step (Ev.of_eq (g:=fun n=>(names_kind n ⟨D,ts⟩ s.Name).bind fun r10=>some (r10 == 5)) (fun n=>by simp only [names_right_L0,List.append_nil,ix_ge,cond_false,cond_true,jn,c2,c3]) (Ev.bind k1 (Ev.ret _)))
  ·exact Ev.step (Ev.of_eq (g:=fun n=>(names_kind n ⟨D,ts⟩ s.Name).bind fun r10=>some (r10 == 5)) (fun n=>by simp only [names_right_L0,List.append_nil,ix_ge,cond_false,cond_true,jn,c2]) (Ev.bind k1 (Ev.ret _)))
 | x :: r,pre,hl=>by
  have hp : pre.length + 1 ≤ 3000000:=by simp at hl; omega
  have k1:=kind_ev D ts x h
  have m1:=right_L0 D ts h s r (pre ++ [x]) (by rw [← ix_cons]; exact hl)
  have e1 : ∀ n,names_right_L0 (n + 1) ⟨D,ts⟩ s (pre ++ x :: r) pre.length = (names_kind n ⟨D,ts⟩ x).bind fun r4=>bif (shd r4 || (r4 == 4)) then names_right_L0 n ⟨D,ts⟩ s ((pre ++ [x]) ++ r) ((pre ++ [x]).length) else some false:=by
   intro n
   simp only [names_right_L0,ix_lt,ix_get,cond_true,Option.bind_some,jn,tshared,ix_wr pre x (by omega),← ix_cons]
   congr 1; funext r4
   cases shd r4
   ·cases hq : (r4 == 4) <;> simp [bne,hq]
   ·simp
  rw [List.all_cons]
  unfold okW at m1 ⊢
  cases hc : (shd (knd D x) || (knd D x == 4))
  ·rw [Bool.false_and,Bool.false_and]
   exact Ev.step (Ev.of_eq e1 (Ev.bind k1 (Ev.no hc (Ev.ret _))))
  ·rw [Bool.true_and]
   exact Ev.step (Ev.of_eq e1 (Ev.bind k1 (Ev.yes hc m1)))
theorem szE_szS' (s : Stmt) : szE s.E ≤ szS s:=by cases s; simp only [szS]; omega
theorem tch_len' (s : Stmt) : (tch s).length ≤ szS s + 1:=by
 have:=nm_len.1 s.E
 have:=szE_szS' s
 unfold tch
 rw [List.length_append]
 split <;> split <;> (try split) <;> simp <;> omega
theorem right_ev (D : List Decl) (ts : List (List Stmt)) (h : D.length ≤ 1000000) (s : Stmt) (hs : szS s ≤ 1000000) : Ev (fun n=>names_right n ⟨D,ts⟩ s) (rgt D s):=by
 have:=szE_szS' s
 have:=tch_len' s
 have m1:=right_L0 D ts h s (tch s) [] (by simp; omega)
 exact Ev.of_eq (g:=fun n=>(tree_Touches n s).bind fun r1=>names_right_L0 n ⟨D,ts⟩ s r1 0) (fun n=>by simp only [names_right]) (Ev.bind (ttouch_ev s (by omega)) m1)
def chkS (D : List Decl) : List Stmt → Cx × Int
 | []=>(c0,0)
 | s :: r=>bif rgt D s then chkS D r else (s.At,3)
def chkD (D : List Decl) (S : List Stmt) : Nat → List Decl → Cx × Int
 | _,[]=>chkS D S
 | i,d :: r=>bif decide (fnd 0 D d.Name < (i : Int)) then (d.At,3) else chkD D S (i + 1) r
theorem check_L1 (D : List Decl) (ts : List (List Stmt)) (h : D.length ≤ 1000000) (i1 : Int) (all : List Stmt) (hn : all.length ≤ 1000000) (hz : ∀ x ∈ all,szS x ≤ 1000000) : ∀ (l pre : List Stmt),all = pre ++ l → Ev (fun n=>names_Check_L1 n ⟨D,ts⟩ i1 all pre.length) (chkS D l)
 | [],pre,e=>by
  rw [List.append_nil] at e
  have l1 : decide ((pre.length : Int) < ln all) = false:=by rw [e]; exact ix_ge _
  exact Ev.step (Ev.of_eq (g:=fun n=>some (c0,0)) (fun n=>by simp only [names_Check_L1,l1,cond_false]) (Ev.ret _))
 | x :: r,pre,e=>by
  have hp : pre.length + 1 ≤ 1000000:=by have:=congrArg List.length e; simp at this; omega
  have l1 : decide ((pre.length : Int) < ln all) = true:=by rw [e]; exact ix_lt _ _ _
  have l2 : idx all (pre.length : Int) = some x:=by rw [e]; exact ix_get _ _ _
  have hw:=ix_wr pre x (by omega)
  have m1:=right_ev D ts h x (hz x (by rw [e]; simp))
  have nx:=check_L1 D ts h i1 all hn hz r (pre ++ [x]) (by rw [e]; exact ix_cons _ _ _)
  rw [chkS]
  refine Ev.step (Ev.of_eq (g:=fun n=>(names_right n ⟨D,ts⟩ x).bind fun r7=>bif !r7 then some (x.At,3) else names_Check_L1 n ⟨D,ts⟩ i1 all ((pre ++ [x]).length)) (fun n=>by simp only [names_Check_L1,l1,l2,cond_true,Option.bind_some,hw]) (Ev.bind m1 ?_))
  cases rgt D x
  ·exact Ev.ret _
  ·exact nx
theorem check_L0 (D : List Decl) (ts : List (List Stmt)) (h : D.length ≤ 1000000) (hT : szT ts ≤ 1000000) : ∀ (l pre : List Decl),D = pre ++ l → Ev (fun n=>names_Check_L0 n ⟨D,ts⟩ pre.length) (chkD D (flats ts) pre.length l)
 | [],pre,e=>by
  rw [List.append_nil] at e
  have hlen:=len_T ts
  have l1 : decide ((pre.length : Int) < ln D) = false:=by rw [e]; exact ix_ge _
  have n1:=check_L1 D ts h (pre.length : Int) (flats ts) (by omega) (fun x hx=>by have:=sz_flats ts x hx; omega) (flats ts) [] rfl
  rw [chkD]
  exact Ev.step (Ev.of_eq (g:=fun n=>(tree_List n ⟨D,ts⟩).bind fun r4=>names_Check_L1 n ⟨D,ts⟩ (pre.length : Int) r4 0) (fun n=>by simp only [names_Check_L0,l1,cond_false]) (Ev.bind (List_ev D ts hT) n1))
 | x :: r,pre,e=>by
  have hp : pre.length + 1 ≤ 1000000:=by have:=congrArg List.length e; simp at this; omega
  have l1 : decide ((pre.length : Int) < ln D) = true:=by rw [e]; exact ix_lt _ _ _
  have l2 : idx D (pre.length : Int) = some x:=by rw [e]; exact ix_get _ _ _
  have hw:=ix_wr pre x (by omega)
  have nx:=check_L0 D ts h hT r (pre ++ [x]) (by rw [e]; exact ix_cons _ _ _)
  rw [chkD]
  refine Ev.step (Ev.of_eq (g:=fun n=>(names_Find n ⟨D,ts⟩ x.Name).bind fun r3=>bif decide (r3 < (pre.length : Int)) then some (x.At,3) else names_Check_L0 n ⟨D,ts⟩ ((pre ++ [x]).length)) (fun n=>by simp only [names_Check_L0,l1,l2,cond_true,Option.bind_some,hw]) (Ev.bind (tfind_ev D ts x.Name h) ?_))
  cases decide (fnd 0 D x.Name < (pre.length : Int))
  ·simpa using nx
  ·exact Ev.ret _
abbrev chk (D : List Decl) (S : List Stmt) : Cx × Int:=chkD D S 0 D
theorem check_ev (D : List Decl) (ts : List (List Stmt)) (h : D.length ≤ 1000000) (hT : szT ts ≤ 1000000) : Ev (fun n=>names_Check n ⟨D,ts⟩) (chk D (flats ts)) :=
 Ev.of_eq (fun n=>by simp only [names_Check]; rfl) (check_L0 D ts h hT D [] rfl)
def dup (D : List Decl) : Nat → List Decl → Bool
 | _,[]=>false
 | i,d :: r=>decide (fnd 0 D d.Name < (i : Int)) || dup D (i + 1) r
theorem chkS_ok (D : List Decl) : ∀ S,((chkS D S).2 == 0) = S.all (rgt D)
 | []=>rfl
 | s :: r=>by
  rw [chkS,List.all_cons]
  cases rgt D s
  ·rfl
  ·rw [cond_true,Bool.true_and]; exact chkS_ok D r
theorem chkS_03 (D : List Decl) : ∀ S,(chkS D S).2 = 0 ∨ (chkS D S).2 = 3
 | []=>.inl rfl
 | s :: r=>by
  rw [chkS]
  cases rgt D s
  ·exact .inr rfl
  ·exact chkS_03 D r
theorem chkD_dup (D : List Decl) (S : List Stmt) : ∀ (l : List Decl) (i : Nat),(dup D i l = true → (chkD D S i l).2 = 3) ∧ (dup D i l = false → chkD D S i l = chkS D S)
 | [],i=>⟨fun h=>(by cases h),fun _=>rfl⟩
 | d :: r,i=>by
  rw [dup,chkD]
  obtain ⟨h1,h2⟩:=chkD_dup D S r (i + 1)
  cases decide (fnd 0 D d.Name < (i : Int))
  ·rw [Bool.false_or]; exact ⟨h1,h2⟩
  ·exact ⟨fun _=>rfl,fun h=>by cases h⟩
theorem chk_03 (D : List Decl) (S : List Stmt) : (chk D S).2 = 0 ∨ (chk D S).2 = 3:=by
 obtain ⟨h1,h2⟩:=chkD_dup D S D 0
 cases c : dup D 0 D
 ·rw [chk,h2 c]; exact chkS_03 D S
 ·exact .inr (h1 c)
theorem chk_ok (D : List Decl) (S : List Stmt) : ((chk D S).2 == 0) = (!dup D 0 D && S.all (rgt D)):=by
 obtain ⟨h1,h2⟩:=chkD_dup D S D 0
 cases c : dup D 0 D
 ·rw [chk,h2 c,Bool.not_false,Bool.true_and]; exact chkS_ok D S
 ·rw [chk,h1 c]; rfl
theorem fnd_app (d : Decl) (w : ByteArray) : ∀ (D : List Decl) (i : Nat),(0 ≤ fnd i D w → fnd i (D ++ [d]) w = fnd i D w) ∧ (fnd i D w < 0 → fnd i (D ++ [d]) w = if bytesEq d.Name w = true then ((i + D.length : Nat) : Int) else -1)
 | [],i=>⟨fun h=>by rw [fnd] at h; omega,fun _=>by rw [List.nil_append,fnd,fnd]; rfl⟩
 | x :: D,i=>by
  rw [List.cons_append,fnd,fnd]
  by_cases c : bytesEq x.Name w = true
  ·rw [if_pos c,if_pos c]; exact ⟨fun _=>rfl,fun h=>by omega⟩
  ·rw [if_neg c,if_neg c]
   obtain ⟨h1,h2⟩:=fnd_app d w D (i + 1)
   exact ⟨h1,fun h=>by rw [h2 h,List.length_cons,show i + 1 + D.length = i + (D.length + 1) by omega]⟩
theorem fnd_mem : ∀ (D : List Decl) (i : Nat) (x : Decl),x ∈ D → 0 ≤ fnd i D x.Name
 | [],_,_,h=>by cases h
 | d :: D,i,x,h=>by
  rw [fnd]
  split
  ·omega
  ·rcases List.mem_cons.1 h with rfl | h
   ·rename_i hc; exact absurd (by rw [bytesEq_eq]; exact BEq.rfl) hc
   ·exact fnd_mem D (i + 1) x h
theorem dup_congr (D E : List Decl) : ∀ (l : List Decl) (i : Nat),(∀ x ∈ l,fnd 0 E x.Name = fnd 0 D x.Name) → dup E i l = dup D i l
 | [],_,_=>rfl
 | d :: r,i,h=>by rw [dup,dup,h d (by simp),dup_congr D E r (i + 1) fun x hx=>h x (by simp [hx])]
theorem dup_app (E : List Decl) : ∀ (A B : List Decl) (i : Nat),dup E i (A ++ B) = (dup E i A || dup E (i + A.length) B)
 | [],B,i=>by simp [dup]
 | a :: A,B,i=>by rw [List.cons_append,dup,dup,dup_app E A B (i + 1),Bool.or_assoc,List.length_cons,show i + 1 + A.length = i + (A.length + 1) by omega]
theorem dup_more (D : List Decl) (d : Decl) : dup (D ++ [d]) 0 (D ++ [d]) = (dup D 0 D || decide (0 ≤ fnd 0 D d.Name ∧ fnd 0 D d.Name < D.length)):=by
 rw [dup_app,dup_congr D (D ++ [d]) D 0 fun x hx=>(fnd_app d x.Name D 0).1 (fnd_mem D 0 x hx),dup,dup,Bool.or_false,Nat.zero_add]
 congr 1
 obtain ⟨h1,h2⟩:=fnd_app d d.Name D 0
 by_cases c : 0 ≤ fnd 0 D d.Name
 ·rw [h1 c]
  by_cases c2 : fnd 0 D d.Name < (D.length : Int)
  ·rw [decide_eq_true c2,decide_eq_true ⟨c,c2⟩]
  ·rw [decide_eq_false c2,decide_eq_false fun h=>c2 h.2]
 ·have self : bytesEq d.Name d.Name = true:=by rw [bytesEq_eq]; exact BEq.rfl
  rw [h2 (by omega),if_pos self,Nat.zero_add,decide_eq_false (by omega),decide_eq_false fun h=>c h.1]
theorem knd_app (d : Decl) (w : ByteArray) (h : bytesEq d.Name w = false) : ∀ D : List Decl,knd (D ++ [d]) w = knd D w
 | []=>by
  show (if bytesEq d.Name w = true then d.Kind else 0) = 0
  rw [h]; rfl
 | x :: D=>by rw [List.cons_append,knd,knd,knd_app d w h D]
theorem rgt_app (D : List Decl) (d : Decl) (s : Stmt) (h1 : ∀ w ∈ tch s,bytesEq d.Name w = false) (h2 : bytesEq d.Name s.Name = false) : rgt (D ++ [d]) s = rgt D s:=by
 unfold rgt
 congr 1
 ·rw [Bool.eq_iff_iff,List.all_eq_true,List.all_eq_true]
  refine forall_congr' fun w=>forall_congr' fun hw=>?_
  unfold okW
  rw [knd_app d w (h1 w hw)]
 ·unfold okN
  rw [knd_app d _ h2]
theorem fnd_none : ∀ (D : List Decl) (i : Nat) (w : ByteArray),(∀ x ∈ D,bytesEq x.Name w = false) → fnd i D w = -1
 | [],_,_,_=>rfl
 | d :: D,i,w,h=>by
  have:=h d (by simp)
  rw [fnd,if_neg (by rw [this]; simp),fnd_none D (i + 1) w fun x hx=>h x (by simp [hx])]
theorem fnd_lt : ∀ (D : List Decl) (i : Nat) (w : ByteArray),fnd i D w < ((i + D.length : Nat) : Int)
 | [],i,w=>by rw [fnd]; omega
 | d :: D,i,w=>by
  rw [fnd]
  split
  ·simp; omega
  ·have:=fnd_lt D (i + 1) w; simp; omega
end Go.Su.Ytfmgnboplbgniaa
namespace Go.Su.Ytfmgnboplbgniaa
open Go.Mx Go.Proofs
set_option linter.unusedVariables false
set_option linter.unusedSimpArgs false
set_option maxHeartbeats 4000000
theorem prog2_ev (how : Int) (a b : List Act) (most : Int) (hm : most ≤ 100) :
  ∃ D ts,Ev (fun n=>hand_Prog n how a b [] most) ⟨D,ts⟩ ∧ okDecls D ∧ okTs ts ∧ ts.length = 2:=by
 obtain ⟨D,hD,oD⟩:=decls_ev how
 obtain ⟨a',ha,la⟩:=acts_ev a
 obtain ⟨b',hb,lb⟩:=acts_ev b
 obtain ⟨ta,xa,ea,oa,wa⟩:=stmts_ev a' la most hm
 obtain ⟨tb,xb,eb,ob,wb⟩:=stmts_ev b' lb most hm
 have i0 : idx [a,b,([] : List Act)] 0 = some a:=rfl
 have i1 : idx [a,b,([] : List Act)] 1 = some b:=rfl
 have i2 : idx [a,b,([] : List Act)] 2 = some []:=rfl
 have w1 : wr (0 + 1) = 1:=rfl
 have w2 : wr (1 + 1) = 2:=rfl
 have g0 : ∀ t : List Stmt,room s_LStmt.i1.bytes ([] : List (List Stmt)).length [t].length = true:=fun t=>rfl
 have g1 : ∀ t u : List Stmt,room s_LStmt.i1.bytes (([] : List (List Stmt)) ++ [t]).length [u].length = true:=fun t u=>rfl
 refine ⟨D,[ta,tb],?_,oD,fun t ht=>?_,rfl⟩
 ·refine Ev.of_eq (g:=fun n=>hand_Prog_L0 n how a b [] most D (fun l2=>some (Prog.mk D l2)) [] 0) (fun n=>by simp only [hand_Prog,hD,jn,Option.bind_some]) ?_
  refine Ev.step (Ev.of_eq (g:=fun n=>(hand_stmts n a' most 1).bind fun r10=>hand_Prog_L0 n how a b [] most D (fun l2=>some (Prog.mk D l2)) ([] ++ [r10.1]) 1) (fun n=>?_) (Ev.bind ea ?_))
  ·simp only [hand_Prog_L0,i0,ha,jn,Option.bind_some,g0,cond_true,w1]; rfl
  refine Ev.step (Ev.of_eq (g:=fun n=>(hand_stmts n b' most 1).bind fun r10=>hand_Prog_L0 n how a b [] most D (fun l2=>some (Prog.mk D l2)) ([] ++ [ta] ++ [r10.1]) 2) (fun n=>?_) (Ev.bind eb ?_))
  ·simp only [hand_Prog_L0,i1,hb,jn,Option.bind_some,g1,cond_true,w2]; rfl
  refine Ev.step (Ev.of_eq (g:=fun n=>some ⟨D,[ta,tb]⟩) (fun n=>?_) (Ev.ret _))
  simp only [hand_Prog_L0,i2,jn,Option.bind_some]
  rfl
 ·simp only [List.mem_cons,List.not_mem_nil,or_false] at ht
  rcases ht with rfl | rfl
  ·exact ⟨oa,wa⟩
  ·exact ⟨ob,wb⟩
end Go.Su.Ytfmgnboplbgniaa
namespace Go.Su.Ytfmgnboplbgniaa
open Go.Mx Go.Proofs
set_option linter.unusedVariables false
set_option linter.unusedSimpArgs false
set_option maxHeartbeats 4000000
abbrev bl (s : ByteArray) : List UInt8:=s.data.toList
theorem bl_app (a b : ByteArray) : bl (a ++ b) = bl a ++ bl b:=by
 show (a ++ b).data.toList = _
 rw [ByteArray.data_append,Array.toList_append]
theorem bl_len (a : ByteArray) : (bl a).length = a.size:=by cases a; rfl
theorem bl_eta (a : ByteArray) {l : List UInt8} (h : bl a = l) : a = ⟨⟨l⟩⟩:=by subst h; cases a; rfl
abbrev Key:=Int × ByteArray × Int
def ky (t : Token) : Key:=(t.Kind,t.Text,t.N)
def lowB (c : UInt8) : Bool:=decide (97 ≤ c.toNat) && decide (c.toNat ≤ 122)
def digB (c : UInt8) : Bool:=decide (48 ≤ c.toNat) && decide (c.toNat ≤ 57)
def alB (c : UInt8) : Bool:=lowB c || digB c
def sepB : List UInt8 → Bool
 | []=>true
 | c :: _=>!alB c
theorem letter_eq (n : Nat) (c : UInt8) : ref1_letter n (c.toNat : Int) = some (lowB c):=by
 unfold ref1_letter jn lowB
 by_cases h : 97 ≤ c.toNat
 ·rw [decide_eq_true (show ((c.toNat : Nat) : Int) ≥ 97 by omega),decide_eq_true h,Bool.true_and]
  show some (decide (((c.toNat : Nat) : Int) ≤ 122)) = _
  by_cases h2 : c.toNat ≤ 122
  ·rw [decide_eq_true h2,decide_eq_true (show ((c.toNat : Nat) : Int) ≤ 122 by omega)]
  ·rw [decide_eq_false h2,decide_eq_false (show ¬ ((c.toNat : Nat) : Int) ≤ 122 by omega)]
 ·rw [decide_eq_false (show ¬ ((c.toNat : Nat) : Int) ≥ 97 by omega),decide_eq_false h]; rfl
theorem digit_eq (n : Nat) (c : UInt8) : ref1_digit n (c.toNat : Int) = some (digB c):=by
 unfold ref1_digit jn digB
 by_cases h : 48 ≤ c.toNat
 ·rw [decide_eq_true (show ((c.toNat : Nat) : Int) ≥ 48 by omega),decide_eq_true h,Bool.true_and]
  show some (decide (((c.toNat : Nat) : Int) ≤ 57)) = _
  by_cases h2 : c.toNat ≤ 57
  ·rw [decide_eq_true h2,decide_eq_true (show ((c.toNat : Nat) : Int) ≤ 57 by omega)]
  ·rw [decide_eq_false h2,decide_eq_false (show ¬ ((c.toNat : Nat) : Int) ≤ 57 by omega)]
 ·rw [decide_eq_false (show ¬ ((c.toNat : Nat) : Int) ≥ 48 by omega),decide_eq_false h]; rfl
theorem drop_at {s : ByteArray} {i : Nat} {c : UInt8} {r : List UInt8} (h : (bl s).drop i = c :: r) : idxS s (i : Int) = some (c.toNat : Int) ∧ i < s.size ∧ (bl s).drop (i + 1) = r:=by
 have hl : i < s.size:=by
  rw [← bl_len]
  rcases Nat.lt_or_ge i (bl s).length with q | q
  ·exact q
  ·rw [List.drop_eq_nil_of_le q] at h; cases h
 have hc : (bl s)[i]? = some c:=by rw [← List.head?_drop,h]; rfl
 refine ⟨?_,hl,by rw [← List.tail_drop,h]; rfl⟩
 unfold idxS
 rw [decide_eq_false (by omega),cond_false,Int.toNat_natCast,getElem?_pos s i hl]
 have : (bl s)[i]? = some s[i]:=by rw [List.getElem?_eq_getElem (by rw [bl_len]; exact hl)]; rfl
 rw [this] at hc
 cases hc; rfl
theorem drop_end {s : ByteArray} {i : Nat} (hi : i ≤ s.size) (h : (bl s).drop i = []) : i = s.size:=by
 have:=congrArg List.length h
 rw [List.length_drop,bl_len] at this
 simp at this; omega
theorem ssub_at {s : ByteArray} {i : Nat} {w r : List UInt8} (hi : i ≤ s.size) (h : (bl s).drop i = w ++ r) : ssub s (i : Int) ((i + w.length : Nat) : Int) = some ⟨⟨w⟩⟩ ∧ i + w.length ≤ s.size:=by
 have hl : i + w.length ≤ s.size:=by
  have:=congrArg List.length h
  rw [List.length_drop,bl_len,List.length_append] at this; omega
 refine ⟨?_,hl⟩
 unfold ssub
 have : (decide ((0 : Int) ≤ i) && decide ((i : Int) ≤ ((i + w.length : Nat) : Int)) && decide (((i + w.length : Nat) : Int) ≤ s.size)) = true:=by simp; omega
 rw [this,cond_true]
 unfold exS
 rw [Int.toNat_natCast,Int.toNat_natCast,Nat.add_sub_cancel_left]
 have : s.data.toList.drop i = w ++ r:=h
 rw [this,List.take_left]
theorem word_L0 (s : ByteArray) (at_ : Nat) (x1 : Int) (r2 : Bool) (w4 : ByteArray) (c : UInt8) (hs : s.size ≤ 6000) : ∀ (v u r : List UInt8),(bl s).drop at_ = (c :: u) ++ (v ++ r) → at_ + 1 + u.length ≤ s.size → (∀ y ∈ v,alB y = true) → sepB r = true → u.length + v.length ≤ 11 →
  Ev (fun n=>ref1_one_L0 n s at_ x1 r2 w4 ((at_ + 1 + u.length : Nat) : Int)) (⟨1,⟨⟨c :: (u ++ v)⟩⟩,0,at_⟩,((1 + u.length + v.length : Nat) : Int))
 | [],u,r,h,hl,hv,hr,h11=>by
  have e1 : wr (((at_ + 1 + u.length : Nat) : Int) - (at_ : Int)) = ((1 + u.length : Nat) : Int):=by rw [wr_of (by omega)]; omega
  have d1 : decide (((1 + u.length : Nat) : Int) > 12) = false:=decide_eq_false (by simp at h11; omega)
  obtain ⟨s1,s2⟩:=ssub_at (w:=c :: u) (by omega) h
  have s3 : ssub s (at_ : Int) ((at_ + 1 + u.length : Nat) : Int) = some ⟨⟨c :: u⟩⟩:=by rw [← s1]; congr 2; simp; omega
  refine Ev.step (Ev.of_eq (g:=fun n=>some (⟨1,⟨⟨c :: (u ++ [])⟩⟩,0,at_⟩,((1 + u.length + ([] : List UInt8).length : Nat) : Int))) (fun n=>?_) (Ev.ret _))
  have fin : ∀ b : Bool,b = false → (bif b then ref1_one_L0 n s at_ x1 r2 w4 (wr (((at_ + 1 + u.length : Nat) : Int) + 1)) else bif decide ((wr (((at_ + 1 + u.length : Nat) : Int) - (at_ : Int))) > 12) then some ((Token.mk 0 b0 0 0),(0 : Int)) else (ssub s at_ ((at_ + 1 + u.length : Nat) : Int)).bind fun w12=>some ((Token.mk 1 w12 0 at_),wr (((at_ + 1 + u.length : Nat) : Int) - (at_ : Int)))) = some (⟨1,⟨⟨c :: (u ++ [])⟩⟩,0,at_⟩,((1 + u.length + ([] : List UInt8).length : Nat) : Int)):=by
   intro b hb
   rw [hb,cond_false,e1,d1,cond_false,s3,List.append_nil]; rfl
  cases r with
  | nil =>
   have hend : at_ + 1 + u.length = s.size:=by
    have:=congrArg List.length h
    rw [List.length_drop,bl_len] at this
    simp at this; omega
   have d2 : decide (((at_ + 1 + u.length : Nat) : Int) < (s.size : Int)) = false:=decide_eq_false (by omega)
   simp only [ref1_one_L0,jn,d2,cond_false]
   exact fin false rfl
  | cons y r =>
   have hy : (bl s).drop (at_ + 1 + u.length) = y :: r:=by
    rw [show at_ + 1 + u.length = at_ + (1 + u.length) by omega,← List.drop_drop,h]
    rw [show 1 + u.length = (c :: u).length by simp; omega,List.drop_left]; rfl
   obtain ⟨i1,i2,_⟩:=drop_at hy
   have d2 : decide (((at_ + 1 + u.length : Nat) : Int) < (s.size : Int)) = true:=decide_eq_true (by omega)
   have ha : lowB y = false ∧ digB y = false:=by
    have : (!alB y) = true:=hr
    unfold alB at this
    cases q1 : lowB y <;> cases q2 : digB y <;> simp_all
   simp only [ref1_one_L0,jn,d2,cond_true,i1,Option.bind_some,letter_eq,digit_eq,ha.1,ha.2,cond_false]
   exact fin false rfl
 | y :: v,u,r,h,hl,hv,hr,h11=>by
  have hy : (bl s).drop (at_ + 1 + u.length) = y :: (v ++ r):=by
   rw [show at_ + 1 + u.length = at_ + (1 + u.length) by omega,← List.drop_drop,h]
   rw [show 1 + u.length = (c :: u).length by simp; omega,List.drop_left]; rfl
  obtain ⟨i1,i2,_⟩:=drop_at hy
  have d2 : decide (((at_ + 1 + u.length : Nat) : Int) < (s.size : Int)) = true:=decide_eq_true (by omega)
  have nx:=word_L0 s at_ x1 r2 w4 c hs v (u ++ [y]) r (by rw [h]; simp) (by simp; omega) (fun z hz=>hv z (by simp [hz])) hr (by simp at h11 ⊢; omega)
  have e1 : wr (((at_ + 1 + u.length : Nat) : Int) + 1) = ((at_ + 1 + (u ++ [y]).length : Nat) : Int):=by rw [wr_of (by omega),List.length_append]; rfl
  have e2 : (1 + (u ++ [y]).length + v.length) = 1 + u.length + (y :: v).length:=by simp; omega
  rw [e2,List.append_assoc,List.singleton_append] at nx
  refine Ev.step (Ev.of_eq (fun n=>?_) nx)
  have ha:=hv y (by simp)
  unfold alB at ha
  cases q1 : lowB y
  ·rw [q1,Bool.false_or] at ha
   simp only [ref1_one_L0,jn,d2,cond_true,cond_false,i1,Option.bind_some,letter_eq,digit_eq,q1,ha,e1]
  ·simp only [ref1_one_L0,jn,d2,cond_true,i1,Option.bind_some,letter_eq,q1,e1]
def ScR (rest : List UInt8) (ts : List Key) : Prop:=∀ (s : ByteArray) (i : Nat),s.size ≤ 6000 → i ≤ s.size → (bl s).drop i = rest → ∀ acc : List Token,acc.length ≤ i →
 ∃ T,Ev (fun n=>ref1_Tokens_L0 n s acc (i : Int)) (acc ++ T ++ [⟨4,b0,0,(s.size : Int)⟩],0,0) ∧ T.map ky = ts
theorem roomTk (a : Nat) (h : a ≤ 6001) (t : Token) : room s_Token.i1.bytes a [t].length = true:=room_of (by
 have : s_Token.i1.bytes = 40:=rfl
 rw [this]; simp only [List.length_singleton]; omega)
theorem scR_nil : ScR [] []:=by
 intro s i hs hi h acc ha
 have hi:=drop_end hi h
 have d : decide ((i : Int) < (s.size : Int)) = false:=decide_eq_false (by omega)
 refine ⟨[],Ev.step (Ev.of_eq (g:=fun n=>some (acc ++ [⟨4,b0,0,(s.size : Int)⟩],0,0)) (fun n=>?_) (by simpa using Ev.ret _)),rfl⟩
 simp only [ref1_Tokens_L0,d,cond_false,roomTk acc.length (by omega),cond_true]
 rw [hi]
theorem scR_blank (c : UInt8) (hc : c = 32 ∨ c = 9 ∨ c = 10) {rest : List UInt8} {ts : List Key} (h : ScR rest ts) : ScR (c :: rest) ts:=by
 intro s i hs hi hd acc ha
 obtain ⟨h1,h2,h3⟩:=drop_at hd
 obtain ⟨T,k1,k2⟩:=h s (i + 1) hs (by omega) h3 acc (by omega)
 have d : decide ((i : Int) < (s.size : Int)) = true:=decide_eq_true (by omega)
 have e3 : wr ((i : Int) + 1) = ((i + 1 : Nat) : Int):=by rw [wr_of (by omega)]; rfl
 refine ⟨T,Ev.step (Ev.of_eq (fun n=>?_) k1),k2⟩
 rcases hc with rfl | rfl | rfl <;> (simp only [ref1_Tokens_L0,d,cond_true,h1,Option.bind_some,jn,e3]; rfl)
theorem scR_tok (c : UInt8) (w rest : List UInt8) (t : Key) (hc : c ≠ 32 ∧ c ≠ 9 ∧ c ≠ 10 ∧ c ≠ 35) {ts : List Key} (h : ScR rest ts)
  (ho : ∀ (s : ByteArray) (i : Nat),s.size ≤ 6000 → (bl s).drop i = (c :: w) ++ rest → i < s.size → Ev (fun n=>ref1_one n s (i : Int)) (⟨t.1,t.2.1,t.2.2,(i : Int)⟩,((1 + w.length : Nat) : Int))) : ScR ((c :: w) ++ rest) (t :: ts):=by
 intro s i hs hi hd acc ha
 obtain ⟨h1,h2,h3⟩:=drop_at (r:=w ++ rest) hd
 have hl:=(ssub_at (w:=c :: w) hi hd).2
 have hr : (bl s).drop (i + (1 + w.length)) = rest:=by
  rw [← List.drop_drop,hd,show 1 + w.length = (c :: w).length by simp; omega,List.drop_left]
 rw [List.length_cons] at hl
 obtain ⟨T,k1,k2⟩:=h s (i + (1 + w.length)) hs (by omega) hr (acc ++ [⟨t.1,t.2.1,t.2.2,(i : Int)⟩]) (by simp; omega)
 have d : decide ((i : Int) < (s.size : Int)) = true:=decide_eq_true (by omega)
 have e3 : wr ((i : Int) + ((1 + w.length : Nat) : Int)) = ((i + (1 + w.length) : Nat) : Int):=by rw [wr_of (by omega)]; omega
 have hk : (((1 + w.length : Nat) : Int) == 0) = false:=beq_eq_false_iff_ne.2 (by omega)
 have nb : ∀ k : Nat,k < 256 → c ≠ UInt8.ofNat k → (((c.toNat : Nat) : Int) == (k : Int)) = false:=by
  intro k hk hne
  refine beq_eq_false_iff_ne.2 fun q=>hne ?_
  have q2 : c.toNat = k:=by omega
  rw [← q2]; simp
 have b1:=nb 32 (by omega) hc.1
 have b2:=nb 9 (by omega) hc.2.1
 have b3:=nb 10 (by omega) hc.2.2.1
 have b4:=nb 35 (by omega) hc.2.2.2
 refine ⟨⟨t.1,t.2.1,t.2.2,(i : Int)⟩ :: T,Ev.step (Ev.of_eq (g:=fun n=>(ref1_one n s (i : Int)).bind fun r10=>bif (r10.2 == 0) then some ([],(i : Int),2) else bif room s_Token.i1.bytes acc.length [r10.1].length then ref1_Tokens_L0 n s (acc ++ [r10.1]) (wr ((i : Int) + r10.2)) else none) (fun n=>?_) (Ev.bind (ho s i hs hd h2) ?_)),by rw [List.map_cons,k2]; rfl⟩
 ·simp only [ref1_Tokens_L0,d,cond_true,h1,Option.bind_some,jn]
  have b1' : (((c.toNat : Nat) : Int) == 32) = false:=b1
  have b2' : (((c.toNat : Nat) : Int) == 9) = false:=b2
  have b3' : (((c.toNat : Nat) : Int) == 10) = false:=b3
  have b4' : (((c.toNat : Nat) : Int) == 35) = false:=b4
  simp only [b1',b2',b3',b4',cond_false]
 ·simp only [hk,cond_false,roomTk acc.length (by omega),cond_true,e3]
  simpa using k1
theorem scR_word (k : ByteArray) (c : UInt8) (w : List UInt8) (hk : bl k = c :: w) (hc : lowB c = true) (hw : w.all alB = true) (h11 : w.length ≤ 11) {rest : List UInt8} {ts : List Key} (hr : sepB rest = true) (h : ScR rest ts) : ScR (bl k ++ rest) ((1,k,0) :: ts):=by
 rw [hk]
 have hc2 : 97 ≤ c.toNat ∧ c.toNat ≤ 122:=by unfold lowB at hc; simpa using hc
 refine scR_tok c w rest (1,k,0) ⟨fun q=>?_,fun q=>?_,fun q=>?_,fun q=>?_⟩ h fun s i hs hd hi=>?_
 ·rw [q] at hc2; revert hc2; decide
 ·rw [q] at hc2; revert hc2; decide
 ·rw [q] at hc2; revert hc2; decide
 ·rw [q] at hc2; revert hc2; decide
 ·obtain ⟨h1,_,_⟩:=drop_at (r:=w ++ rest) hd
  have m:=word_L0 s i (c.toNat : Int) true b0 c hs w [] rest hd (by simp; omega) (List.all_eq_true.1 hw) hr (by simpa using h11)
  have e1 : wr ((i : Int) + 1) = ((i + 1 + ([] : List UInt8).length : Nat) : Int):=by rw [wr_of (by omega)]; rfl
  rw [bl_eta k hk]
  refine Ev.of_eq (fun n=>?_) (by simpa only [List.nil_append,List.length_nil,Nat.add_zero] using m)
  simp only [ref1_one,h1,Option.bind_some,letter_eq,hc,cond_true,e1,List.length_nil,Nat.add_zero]
theorem num1 : ∀ (d : Nat),d ≤ 9 → ∀ n : Nat,ref1_number (n + 5) ⟨⟨[UInt8.ofNat (48 + d)]⟩⟩ = some ((d : Int),true)
 | 0,_,n=>by show ref1_number (n + 5) ⟨⟨[UInt8.ofNat (48 + 0)]⟩⟩ = some (((0 : Nat) : Int),true); kernel_rfl
 | 1,_,n=>by show ref1_number (n + 5) ⟨⟨[UInt8.ofNat (48 + 1)]⟩⟩ = some (((1 : Nat) : Int),true); kernel_rfl
 | 2,_,n=>by show ref1_number (n + 5) ⟨⟨[UInt8.ofNat (48 + 2)]⟩⟩ = some (((2 : Nat) : Int),true); kernel_rfl
 | 3,_,n=>by show ref1_number (n + 5) ⟨⟨[UInt8.ofNat (48 + 3)]⟩⟩ = some (((3 : Nat) : Int),true); kernel_rfl
 | 4,_,n=>by show ref1_number (n + 5) ⟨⟨[UInt8.ofNat (48 + 4)]⟩⟩ = some (((4 : Nat) : Int),true); kernel_rfl
 | 5,_,n=>by show ref1_number (n + 5) ⟨⟨[UInt8.ofNat (48 + 5)]⟩⟩ = some (((5 : Nat) : Int),true); kernel_rfl
 | 6,_,n=>by show ref1_number (n + 5) ⟨⟨[UInt8.ofNat (48 + 6)]⟩⟩ = some (((6 : Nat) : Int),true); kernel_rfl
 | 7,_,n=>by show ref1_number (n + 5) ⟨⟨[UInt8.ofNat (48 + 7)]⟩⟩ = some (((7 : Nat) : Int),true); kernel_rfl
 | 8,_,n=>by show ref1_number (n + 5) ⟨⟨[UInt8.ofNat (48 + 8)]⟩⟩ = some (((8 : Nat) : Int),true); kernel_rfl
 | 9,_,n=>by show ref1_number (n + 5) ⟨⟨[UInt8.ofNat (48 + 9)]⟩⟩ = some (((9 : Nat) : Int),true); kernel_rfl
 | d + 10,h,n=>absurd h (by omega)
theorem dig1 (d : Nat) (hd : d ≤ 9) : lowB (UInt8.ofNat (48 + d)) = false ∧ digB (UInt8.ofNat (48 + d)) = true ∧ UInt8.ofNat (48 + d) ≠ 32 ∧ UInt8.ofNat (48 + d) ≠ 9 ∧ UInt8.ofNat (48 + d) ≠ 10 ∧ UInt8.ofNat (48 + d) ≠ 35:=by
 match d,hd with
 | 0,_=>decide
 | 1,_=>decide
 | 2,_=>decide
 | 3,_=>decide
 | 4,_=>decide
 | 5,_=>decide
 | 6,_=>decide
 | 7,_=>decide
 | 8,_=>decide
 | 9,_=>decide
theorem scR_digit (d : Nat) (hd : d ≤ 9) {rest : List UInt8} {ts : List Key} (hr : sepB rest = true) (h : ScR rest ts) : ScR (UInt8.ofNat (48 + d) :: rest) ((2,⟨⟨[UInt8.ofNat (48 + d)]⟩⟩,(d : Int)) :: ts):=by
 obtain ⟨g1,g2,g3⟩:=dig1 d hd
 refine scR_tok (UInt8.ofNat (48 + d)) [] rest (2,⟨⟨[UInt8.ofNat (48 + d)]⟩⟩,(d : Int)) g3 h fun s i hs hdr hi=>?_
 obtain ⟨h1,h2,h3⟩:=drop_at (r:=rest) hdr
 have e1 : wr ((i : Int) + 1) = ((i + 1 : Nat) : Int):=by rw [wr_of (by omega)]; rfl
 have e2 : wr (((i + 1 : Nat) : Int) - (i : Int)) = 1:=by rw [wr_of (by omega)]; omega
 have s1 : ssub s (i : Int) ((i + 1 : Nat) : Int) = some ⟨⟨[UInt8.ofNat (48 + d)]⟩⟩:=(ssub_at (w:=[UInt8.ofNat (48 + d)]) (by omega) hdr).1
 have fin : ∀ n : Nat,((ref1_number (n + 5) ⟨⟨[UInt8.ofNat (48 + d)]⟩⟩).bind fun r22=>bif !r22.2 then some ((Token.mk 0 b0 0 0),(0 : Int)) else some ((Token.mk 2 ⟨⟨[UInt8.ofNat (48 + d)]⟩⟩ r22.1 i),(1 : Int))) = some (⟨2,⟨⟨[UInt8.ofNat (48 + d)]⟩⟩,(d : Int),(i : Int)⟩,((1 + ([] : List UInt8).length : Nat) : Int)):=by
  intro n
  rw [num1 d hd n]; rfl
 refine ⟨10,fun n hn=>?_⟩
 obtain ⟨m,rfl⟩ : ∃ m,n = (m + 5) + 1:=⟨n - 6,by omega⟩
 show ref1_one ((m + 5) + 1) s (i : Int) = _
 have step : ref1_one_L1 ((m + 5) + 1) s (i : Int) ((UInt8.ofNat (48 + d)).toNat : Int) false true b0 ((i + 1 : Nat) : Int) = some (⟨2,⟨⟨[UInt8.ofNat (48 + d)]⟩⟩,(d : Int),(i : Int)⟩,((1 + ([] : List UInt8).length : Nat) : Int)):=by
  cases rest with
  | nil =>
   have hend:=drop_end (by omega) h3
   have d2 : decide (((i + 1 : Nat) : Int) < (s.size : Int)) = false:=decide_eq_false (by omega)
   simp only [ref1_one_L1,jn,d2,cond_false,s1,Option.bind_some,e2]
   exact fin m
  | cons y r =>
   obtain ⟨i1,i2,_⟩:=drop_at h3
   have d2 : decide (((i + 1 : Nat) : Int) < (s.size : Int)) = true:=decide_eq_true (by omega)
   have ha : digB y = false:=by
    have : (!alB y) = true:=hr
    unfold alB at this
    cases q1 : lowB y <;> cases q2 : digB y <;> simp_all
   simp only [ref1_one_L1,jn,d2,cond_true,i1,Option.bind_some,digit_eq,ha,cond_false,s1,e2]
   exact fin m
 rw [← step]
 simp only [ref1_one,h1,Option.bind_some,letter_eq,digit_eq,g1,g2,cond_true,cond_false,e1]
def sgnB (c : UInt8) : Bool:=[60,43,45,42,47,37,40,41,123,125].any (fun x=>x == c)
theorem sgn_L2 (s : ByteArray) (i : Nat) (c : UInt8) (r : List UInt8) (hs : s.size ≤ 6000) (hd : (bl s).drop i = c :: r) (j : Nat) (hj : idxS x_3d3c2b2d2a2f2528297b7d (j : Int) = some (c.toNat : Int)) : ∀ (m a : Nat),a + m = j → j < 11 → Ev (fun n=>ref1_one_L2 n s (i : Int) (c.toNat : Int) false false b0 false (a : Int)) (⟨3,⟨⟨[c]⟩⟩,0,(i : Int)⟩,1):=by
 have h1:=drop_at hd
 have e1 : wr ((i : Int) + 1) = ((i + 1 : Nat) : Int):=by rw [wr_of (by omega)]; rfl
 have s1 : ssub s (i : Int) ((i + 1 : Nat) : Int) = some ⟨⟨[c]⟩⟩:=(ssub_at (w:=[c]) (r:=r) (by omega) hd).1
 have hit : ∀ a : Nat,a < 11 → idxS x_3d3c2b2d2a2f2528297b7d (a : Int) = some (c.toNat : Int) → Ev (fun n=>ref1_one_L2 n s (i : Int) (c.toNat : Int) false false b0 false (a : Int)) (⟨3,⟨⟨[c]⟩⟩,0,(i : Int)⟩,1):=by
  intro a ha hx
  have d : decide ((a : Int) < 11) = true:=decide_eq_true (by omega)
  refine Ev.step (Ev.of_eq (g:=fun n=>some (⟨3,⟨⟨[c]⟩⟩,0,(i : Int)⟩,1)) (fun n=>?_) (Ev.ret _))
  simp only [ref1_one_L2,d,cond_true,hx,Option.bind_some,beq_self_eq_true,e1,s1]
 intro m
 induction m with
 | zero=>intro a ha hj2; exact hit a (by omega) (by rw [show a = j by omega]; exact hj)
 | succ m ih =>
  intro a ha hj2
  have d : decide ((a : Int) < 11) = true:=decide_eq_true (by omega)
  have e3 : wr ((a : Int) + 1) = ((a + 1 : Nat) : Int):=by rw [wr_of (by omega)]; rfl
  obtain ⟨x,hx,_⟩:=idxS_of x_3d3c2b2d2a2f2528297b7d a (by show a < 11; omega)
  cases c1 : (x == (c.toNat : Int))
  ·refine Ev.step (Ev.of_eq (fun n=>?_) (ih (a + 1) (by omega) hj2))
   simp only [ref1_one_L2,d,cond_true,hx,Option.bind_some,c1,cond_false,e3]
  ·exact hit a (by omega) (by rw [hx,eq_of_beq c1])
theorem sgn_at : ∀ c : UInt8,sgnB c = true → ∃ j : Nat,j < 11 ∧ idxS x_3d3c2b2d2a2f2528297b7d (j : Int) = some (c.toNat : Int) ∧ lowB c = false ∧ digB c = false ∧ (((c.toNat : Nat) : Int) == 61) = false ∧ c ≠ 32 ∧ c ≠ 9 ∧ c ≠ 10 ∧ c ≠ 35:=by
 intro c h
 unfold sgnB at h
 rw [List.any_eq_true] at h
 obtain ⟨x,hx,he⟩:=h
 rw [eq_of_beq he] at hx
 simp only [List.mem_cons,List.not_mem_nil,or_false] at hx
 rcases hx with rfl | rfl | rfl | rfl | rfl | rfl | rfl | rfl | rfl | rfl
 ·exact ⟨1,by decide,by kernel_rfl,by decide⟩
 ·exact ⟨2,by decide,by kernel_rfl,by decide⟩
 ·exact ⟨3,by decide,by kernel_rfl,by decide⟩
 ·exact ⟨4,by decide,by kernel_rfl,by decide⟩
 ·exact ⟨5,by decide,by kernel_rfl,by decide⟩
 ·exact ⟨6,by decide,by kernel_rfl,by decide⟩
 ·exact ⟨7,by decide,by kernel_rfl,by decide⟩
 ·exact ⟨8,by decide,by kernel_rfl,by decide⟩
 ·exact ⟨9,by decide,by kernel_rfl,by decide⟩
 ·exact ⟨10,by decide,by kernel_rfl,by decide⟩
theorem scR_sign (c : UInt8) (hc : sgnB c = true) {rest : List UInt8} {ts : List Key} (h : ScR rest ts) : ScR (c :: rest) ((3,⟨⟨[c]⟩⟩,0) :: ts):=by
 obtain ⟨j,g0,g1,g2,g3,g4,g5⟩:=sgn_at c hc
 refine scR_tok c [] rest (3,⟨⟨[c]⟩⟩,0) g5 h fun s i hs hdr hi=>?_
 obtain ⟨h1,h2,h3⟩:=drop_at (r:=rest) hdr
 refine Ev.of_eq (fun n=>?_) (sgn_L2 s i c rest hs hdr j g1 j 0 (by omega) g0)
 simp only [ref1_one,h1,Option.bind_some,letter_eq,digit_eq,g2,g3,g4,cond_false,jn]
 rfl
theorem scR_eq {rest : List UInt8} {ts : List Key} (h : ScR (32 :: rest) ts) : ScR (61 :: 32 :: rest) ((3,⟨⟨[61]⟩⟩,0) :: ts):=by
 refine scR_tok 61 [] (32 :: rest) (3,⟨⟨[61]⟩⟩,0) (by decide) h fun s i hs hdr hi=>?_
 obtain ⟨h1,h2,h3⟩:=drop_at (r:=32 :: rest) hdr
 obtain ⟨h4,h5,_⟩:=drop_at h3
 have e1 : wr ((i : Int) + 1) = ((i + 1 : Nat) : Int):=by rw [wr_of (by omega)]; rfl
 have d : decide (((i + 1 : Nat) : Int) < (s.size : Int)) = true:=decide_eq_true (by omega)
 have q1 : lowB 61 = false:=by decide
 have q2 : digB 61 = false:=by decide
 have q3 : ((((61 : UInt8).toNat : Nat) : Int) == 61) = true:=by decide
 have q4 : ((((32 : UInt8).toNat : Nat) : Int) == 61) = false:=by decide
 refine Ev.of_eq (fun n=>?_) (sgn_L2 s i 61 (32 :: rest) hs hdr 0 (by kernel_rfl) 0 0 (by omega) (by omega))
 simp only [ref1_one,h1,Option.bind_some,letter_eq,digit_eq,q1,q2,q3,cond_true,cond_false,jn,e1,d,h4,q4]
 rfl
theorem scR_eqeq {rest : List UInt8} {ts : List Key} (h : ScR rest ts) : ScR (61 :: 61 :: rest) ((3,x_3d3d,0) :: ts):=by
 refine scR_tok 61 [61] rest (3,x_3d3d,0) (by decide) h fun s i hs hdr hi=>?_
 obtain ⟨h1,h2,h3⟩:=drop_at (r:=61 :: rest) hdr
 obtain ⟨h4,h5,_⟩:=drop_at h3
 have e1 : wr ((i : Int) + 1) = ((i + 1 : Nat) : Int):=by rw [wr_of (by omega)]; rfl
 have d : decide (((i + 1 : Nat) : Int) < (s.size : Int)) = true:=decide_eq_true (by omega)
 have q1 : lowB 61 = false:=by decide
 have q2 : digB 61 = false:=by decide
 have q3 : ((((61 : UInt8).toNat : Nat) : Int) == 61) = true:=by decide
 refine Ev.of_eq (g:=fun n=>some (⟨3,x_3d3d,0,(i : Int)⟩,((1 + [(61 : UInt8)].length : Nat) : Int))) (fun n=>?_) (Ev.ret _)
 simp only [ref1_one,h1,Option.bind_some,letter_eq,digit_eq,q1,q2,q3,cond_true,cond_false,jn,e1,d,h4]
 rfl
def Ch0 (w : ByteArray) (ts : List Key) : Prop:=∀ rest tr,ScR rest tr → ScR (bl w ++ rest) (ts ++ tr)
def Ch (w : ByteArray) (ts : List Key) : Prop:=∀ rest tr,sepB rest = true → ScR rest tr → ScR (bl w ++ rest) (ts ++ tr)
def St (w : ByteArray) : Prop:=∃ c r,bl w = c :: r ∧ alB c = false
theorem Ch0.ch {w : ByteArray} {ts : List Key} (h : Ch0 w ts) : Ch w ts:=fun rest tr _ hr=>h rest tr hr
theorem Ch0.app {a b : ByteArray} {ta tb : List Key} (ha : Ch0 a ta) (hb : Ch0 b tb) : Ch0 (a ++ b) (ta ++ tb):=fun rest tr hr=>by
 rw [bl_app,List.append_assoc,List.append_assoc]; exact ha _ _ (hb _ _ hr)
theorem Ch0.app1 {a b : ByteArray} {ta tb : List Key} (ha : Ch0 a ta) (hb : Ch b tb) : Ch (a ++ b) (ta ++ tb):=fun rest tr hs hr=>by
 rw [bl_app,List.append_assoc,List.append_assoc]; exact ha _ _ (hb _ _ hs hr)
theorem St.sep {b : ByteArray} (h : St b) (r : List UInt8) : sepB (bl b ++ r) = true:=by
 obtain ⟨c,r',h1,h2⟩:=h
 rw [h1]
 show (!alB c) = true
 rw [h2]; rfl
theorem Ch.app {a b : ByteArray} {ta tb : List Key} (ha : Ch a ta) (hb : Ch0 b tb) (hst : St b) : Ch0 (a ++ b) (ta ++ tb):=fun rest tr hr=>by
 rw [bl_app,List.append_assoc,List.append_assoc]; exact ha _ _ (hst.sep rest) (hb _ _ hr)
theorem Ch0.nil : Ch0 b0 []:=fun rest tr h=>h
theorem Ch.word (k : ByteArray) (c : UInt8) (w : List UInt8) (hk : bl k = c :: w) (hc : (lowB c && w.all alB && decide (w.length ≤ 11)) = true) : Ch k [(1,k,0)]:=fun rest tr hs hr=>by
 simp only [Bool.and_eq_true,decide_eq_true_eq] at hc
 exact scR_word k c w hk hc.1.1 hc.1.2 hc.2 hs hr
end Go.Su.Ytfmgnboplbgniaa
namespace Go.Su.Ytfmgnboplbgniaa
open Go.Mx Go.Proofs
set_option linter.unusedVariables false
set_option linter.unusedSimpArgs false
set_option maxHeartbeats 4000000
theorem sroom_of {a b : ByteArray} (h : a.size + b.size ≤ 9223372036854775807) : sroom a b = true:=by
 unfold sroom
 have : ¬ (((a.size + b.size : Nat) : Int) > IntKind.i64.max):=by
  have e : IntKind.i64.max = 9223372036854775807:=rfl
  rw [e]; omega
 rw [decide_eq_false this]; rfl
theorem size_app (a b : ByteArray) : (a ++ b).size = a.size + b.size:=ByteArray.size_append
end Go.Su.Ytfmgnboplbgniaa
