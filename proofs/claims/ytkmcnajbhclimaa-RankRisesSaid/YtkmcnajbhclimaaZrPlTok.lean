/-
  Tokens of any text.
-/
import Derived.Test.YtkmcnajbhclimaaZrPlShow
import Derived.Test.YtkmcnajbhclimaaZrPlWrp
import Derived.KernelRfl
namespace Go.Su.Ytkmcnajbhclimaa
open Go.Mx Go.Proofs
set_option linter.unusedVariables false
set_option linter.unusedSimpArgs false
set_option maxHeartbeats 4000000
theorem f2iN : ((List.range 3001).all fun k=>f2i (FloatKind.f64.nearest (k : Nat)) == some (k : Int)) = true:=by kernel_rfl
theorem f2i_of (k : Nat) (h : k ≤ 3000) : f2i (FloatKind.f64.nearest (k : Nat)) = some (k : Int):=by
 have:=List.all_eq_true.1 f2iN k (List.mem_range.2 (by omega))
 simpa using this
theorem roomM (a b : Nat) (h : a + b ≤ 1000000) : room s_mark.i1.bytes a b = true:=room_of (by
 have : s_mark.i1.bytes = 200:=rfl
 rw [this]; omega)
theorem roomI (a b : Nat) (h : a + b ≤ 1000000) : room s_int.i1.bytes a b = true:=room_of (by
 have : s_int.i1.bytes = 8:=rfl
 rw [this]; omega)
theorem roomT (a b : Nat) (h : a + b ≤ 1000000) : room s_LStmt.i1.bytes a b = true:=room_of (by
 have : s_LStmt.i1.bytes = 24:=rfl
 rw [this]; omega)
theorem szS_eq (s : Stmt) : szS s = 1 + szE s.E + (szSl s.Body + szSl s.Else):=by cases s; rw [szS]
theorem wt_eq (s : Stmt) : wt s = 10 + 2 * (wtl s.Body + wtl s.Else):=by cases s; rw [wt]
def MkA (x : Stmt) : Prop:=∃ k : Nat,k ≤ 3000 ∧ x.At.re = FloatKind.f64.nearest (k : Int)
def MkL (l : List Stmt) : Prop:=∀ x ∈ flat l,MkA x
theorem MkL_cons {s : Stmt} {r : List Stmt} : MkL (s :: r) ↔ MkA s ∧ MkL s.Body ∧ MkL s.Else ∧ MkL r:=by
 unfold MkL
 simp only [flat,fl1_eq,List.mem_append,List.mem_cons]
 constructor
 ·intro h
  exact ⟨h s (by simp),fun x hx=>h x (by simp [hx]),fun x hx=>h x (by simp [hx]),fun x hx=>h x (by simp [hx])⟩
 ·rintro ⟨h1,h2,h3,h4⟩ x hx
  rcases hx with (rfl | hx | hx) | hx
  ·exact h1
  ·exact h2 x hx
  ·exact h3 x hx
  ·exact h4 x hx
theorem MkL_nil : MkL []:=fun x hx=>by simp [flat] at hx
theorem marked_all : (∀ s : Stmt,(∀ i : Nat,i + szSl s.Body ≤ 3000 → ∃ b' j,Ev (fun n=>hand_marked n s.Body (i : Int)) (b',((j : Nat) : Int)) ∧ MkL b' ∧ szSl b' = szSl s.Body ∧ j ≤ i + szSl s.Body) ∧
   ∀ i : Nat,i + szSl s.Else ≤ 3000 → ∃ b' j,Ev (fun n=>hand_marked n s.Else (i : Int)) (b',((j : Nat) : Int)) ∧ MkL b' ∧ szSl b' = szSl s.Else ∧ j ≤ i + szSl s.Else) ∧
  ∀ l : List Stmt,∀ (a1 : Int) (pre acc : List Stmt) (i : Nat),i + szSl l ≤ 3000 → (pre ++ l).length ≤ 1000000 → acc.length + l.length ≤ 1000000 →
   ∃ l' j,Ev (fun n=>hand_marked_L0 n (pre ++ l) a1 (i : Int) acc pre.length) (acc ++ l',((j : Nat) : Int)) ∧ MkL l' ∧ szSl l' = szSl l ∧ j ≤ i + szSl l:=by
 refine stmt_ind ?_ ?_ ?_
 ·intro k w v m e b l a hb hl
  constructor
  ·intro i hi
   have:=len_Sl b
   simp only at hi ⊢
   obtain ⟨l',j,h1,h2⟩:=hb i [] [] i hi (by simp; omega) (by simp; omega)
   exact ⟨l',j,Ev.step (Ev.of_eq (fun n=>by simp only [hand_marked]; rfl) h1),h2⟩
  ·intro i hi
   have:=len_Sl l
   simp only at hi ⊢
   obtain ⟨l',j,h1,h2⟩:=hl i [] [] i hi (by simp; omega) (by simp; omega)
   exact ⟨l',j,Ev.step (Ev.of_eq (fun n=>by simp only [hand_marked]; rfl) h1),h2⟩
 ·intro a1 pre acc i h1 h2 h3
  exact ⟨[],i,Ev.step (Ev.of_eq (g:=fun n=>some (acc,(i : Int))) (fun n=>by simp only [hand_marked_L0,List.append_nil,ix_ge,cond_false]) (by simpa using Ev.ret _)),MkL_nil,rfl,by omega⟩
 ·intro x r ihx ihr a1 pre acc i h1 h2 h3
  rw [szSl] at h1
  have hx:=szS_eq x
  have hp : pre.length + 1 ≤ 1000000:=by simp at h2; omega
  have ha : acc.length + 1 + r.length ≤ 1000000:=by simp at h3; omega
  obtain ⟨b',j1,e1,m1,z1,c1⟩:=ihx.1 (i + 1) (by omega)
  obtain ⟨l',j2,e2,m2,z2,c2⟩:=ihx.2 j1 (by omega)
  have hw : wr ((i : Int) + 1) = ((i + 1 : Nat) : Int):=by rw [wr_of (by omega)]; rfl
  obtain ⟨r',j,e3,m3,z3,c3⟩:=ihr a1 (pre ++ [x]) (acc ++ [Stmt.mk x.Kind x.Name x.Other x.N x.E b' l' (⟨FloatKind.f64.nearest (i : Int),0⟩ : Cx)]) j2 (by omega) (by rw [← ix_cons]; exact h2) (by simp; omega)
  refine ⟨Stmt.mk x.Kind x.Name x.Other x.N x.E b' l' (⟨FloatKind.f64.nearest (i : Int),0⟩ : Cx) :: r',j,?_,MkL_cons.2 ⟨⟨i,by omega,rfl⟩,m1,m2,m3⟩,by simp only [szSl,szS]; omega,by rw [szSl]; omega⟩
  refine Ev.step (Ev.of_eq (g:=fun n=>(hand_marked n x.Body ((i + 1 : Nat) : Int)).bind fun r6=>(hand_marked n x.Else r6.2).bind fun r8 =>
   bif room s_Stmt.i1.bytes acc.length [(Stmt.mk x.Kind x.Name x.Other x.N x.E r6.1 r8.1 (⟨FloatKind.f64.nearest (i : Int),0⟩ : Cx))].length then
    hand_marked_L0 n ((pre ++ [x]) ++ r) a1 r8.2 (acc ++ [(Stmt.mk x.Kind x.Name x.Other x.N x.E r6.1 r8.1 (⟨FloatKind.f64.nearest (i : Int),0⟩ : Cx))]) ((pre ++ [x]).length) else none) (fun n=>?_) (Ev.bind e1 (Ev.bind e2 (Ev.yes (room32 _ (by omega) _) (by simpa using e3)))))
  simp only [hand_marked_L0,ix_lt,cond_true,ix_get,Option.bind_some,hw]
  rw [ix_wr pre x (by omega),← ix_cons]
theorem marked_ev (l : List Stmt) (i : Nat) (h : i + szSl l ≤ 3000) : ∃ l' j,Ev (fun n=>hand_marked n l (i : Int)) (l',((j : Nat) : Int)) ∧ MkL l' ∧ szSl l' = szSl l ∧ j ≤ i + szSl l:=by
 have:=len_Sl l
 obtain ⟨l',j,h1,h2⟩:=marked_all.2 l i [] [] i h (by simp; omega) (by simp; omega)
 exact ⟨l',j,Ev.step (Ev.of_eq (fun n=>by simp only [hand_marked]; rfl) h1),h2⟩
theorem mark_L0 (D : List Decl) (ts : List (List Stmt)) : ∀ (l pre acc : List (List Stmt)) (i : Nat),ts = pre ++ l → i + szT l ≤ 3000 → ts.length ≤ 1000 → acc.length + l.length ≤ 1000 →
  ∃ l',Ev (fun n=>hand_mark_L0 n ⟨D,ts⟩ (i : Int) acc pre.length) ⟨D,acc ++ l'⟩ ∧ (∀ t ∈ l',MkL t) ∧ szT l' = szT l ∧ l'.length = l.length
 | [],pre,acc,i,e,h,h2,h3=>by
  rw [List.append_nil] at e; subst e
  exact ⟨[],Ev.step (Ev.of_eq (g:=fun n=>some ⟨D,acc⟩) (fun n=>by simp only [hand_mark_L0,ix_ge,cond_false]) (by simpa using Ev.ret _)),by simp,rfl,rfl⟩
 | t :: r,pre,acc,i,e,h,h2,h3=>by
  rw [szT] at h
  have hp : pre.length + 1 ≤ 1000:=by rw [e] at h2; simp at h2; omega
  have ha : acc.length + 1 + r.length ≤ 1000:=by simp at h3; omega
  obtain ⟨t',j,e1,m1,z1,c1⟩:=marked_ev t i (by omega)
  obtain ⟨r',e2,m2,z2,c2⟩:=mark_L0 D ts r (pre ++ [t]) (acc ++ [t']) j (by rw [e]; exact ix_cons _ _ _) (by omega) h2 (by simp; omega)
  refine ⟨t' :: r',?_,?_,by simp only [szT]; omega,by simp [c2]⟩
  ·subst e
   refine Ev.step (Ev.of_eq (g:=fun n=>(hand_marked n t (i : Int)).bind fun r5=>bif room s_LStmt.i1.bytes acc.length [r5.1].length then hand_mark_L0 n ⟨D,pre ++ t :: r⟩ r5.2 (acc ++ [r5.1]) ((pre ++ [t]).length) else none) (fun n=>?_) (Ev.bind e1 (Ev.yes (roomT _ _ (by simp; omega)) (by simpa using e2))))
   simp only [hand_mark_L0,ix_lt,cond_true,ix_get,Option.bind_some]
   rw [ix_wr pre t (by omega)]
  ·intro x hx
   rcases List.mem_cons.1 hx with rfl | hx
   ·exact m1
   ·exact m2 x hx
theorem mark_ev (D : List Decl) (ts : List (List Stmt)) (h : szT ts ≤ 3000) (h2 : ts.length ≤ 1000) : ∃ ts',Ev (fun n=>hand_mark n ⟨D,ts⟩) ⟨D,ts'⟩ ∧ (∀ t ∈ ts',MkL t) ∧ szT ts' = szT ts ∧ ts'.length = ts.length:=by
 obtain ⟨l',h1,h3⟩:=mark_L0 D ts ts [] [] 0 rfl (by omega) h2 (by simp; omega)
 exact ⟨l',Ev.of_eq (fun n=>by simp only [hand_mark]; rfl) (by simpa using h1),h3⟩
def PM (m : Mark) : Prop:=m.Block ≠ [] ∧ m.Block.length ≤ 20000 ∧ MkA m.S
theorem marks_all : (∀ s : Stmt,(∀ (a1 : List Int) (a2 a3 : Int),a1.length + szSl s.Body ≤ 10000 → MkL s.Body → ∃ ms j,Ev (fun n=>ref8_marks n s.Body a1 a2 a3) (ms,j) ∧ ms.length ≤ szSl s.Body ∧ ∀ m ∈ ms,PM m) ∧
   ∀ (a1 : List Int) (a2 a3 : Int),a1.length + szSl s.Else ≤ 10000 → MkL s.Else → ∃ ms j,Ev (fun n=>ref8_marks n s.Else a1 a2 a3) (ms,j) ∧ ms.length ≤ szSl s.Else ∧ ∀ m ∈ ms,PM m) ∧
  ∀ l : List Stmt,∀ (a1 : List Int) (a2 a3 i : Int) (here : List Int) (pre : List Stmt) (acc : List Mark),here ≠ [] → here.length + szSl l ≤ 10001 → (pre ++ l).length ≤ 100000 → acc.length + szSl l ≤ 100000 → MkL l →
   ∃ ms j,Ev (fun n=>ref8_marks_L0 n (pre ++ l) a1 a2 a3 i here acc pre.length) (acc ++ ms,j) ∧ ms.length ≤ szSl l ∧ ∀ m ∈ ms,PM m:=by
 have whole : ∀ (b : List Stmt),(∀ (a1 : List Int) (a2 a3 i : Int) (here : List Int) (pre : List Stmt) (acc : List Mark),here ≠ [] → here.length + szSl b ≤ 10001 → (pre ++ b).length ≤ 100000 → acc.length + szSl b ≤ 100000 → MkL b →
   ∃ ms j,Ev (fun n=>ref8_marks_L0 n (pre ++ b) a1 a2 a3 i here acc pre.length) (acc ++ ms,j) ∧ ms.length ≤ szSl b ∧ ∀ m ∈ ms,PM m) →
   ∀ (a1 : List Int) (a2 a3 : Int),a1.length + szSl b ≤ 10000 → MkL b → ∃ ms j,Ev (fun n=>ref8_marks n b a1 a2 a3) (ms,j) ∧ ms.length ≤ szSl b ∧ ∀ m ∈ ms,PM m:=by
  intro b hb a1 a2 a3 h hM
  have:=len_Sl b
  obtain ⟨ms,j,h1,h2⟩:=hb a1 a2 a3 (wr (a3 + 1)) (([] ++ a1) ++ [wr (a3 + 1)]) [] [] (by simp) (by simp; omega) (by simp; omega) (by simp; omega) hM
  refine ⟨ms,j,Ev.step (Ev.of_eq (fun n=>?_) h1),h2⟩
  simp only [ref8_marks,roomI ([] : List Int).length a1.length (by simp; omega),List.nil_append,roomI a1.length [wr (a3 + 1)].length (by simp; omega),cond_true]
  rfl
 refine stmt_ind ?_ ?_ ?_
 ·intro k w v m e b l a hb hl
  exact ⟨whole b hb,whole l hl⟩
 ·intro a1 a2 a3 i here pre acc h0 h1 h2 h3 hM
  exact ⟨[],i,Ev.step (Ev.of_eq (g:=fun n=>some (acc,i)) (fun n=>by simp only [ref8_marks_L0,List.append_nil,ix_ge,cond_false]) (by simpa using Ev.ret _)),by simp,by simp⟩
 ·intro x r ihx ihr a1 a2 a3 i here pre acc h0 h1 h2 h3 hM
  rw [szSl] at h1 h3
  have hx:=szS_eq x
  have hp : pre.length + 1 ≤ 100000:=by simp at h2; omega
  obtain ⟨mx,mb,me,mr⟩:=MkL_cons.1 hM
  obtain ⟨b',j1,e1,l1,p1⟩:=ihx.1 here a2 i (by omega) mb
  obtain ⟨l',j2,e2,l2,p2⟩:=ihx.2 here a2 j1 (by omega) me
  obtain ⟨r',j,e3,l3,p3⟩:=ihr a1 a2 a3 j2 here (pre ++ [x]) (((acc ++ [Mark.mk x here a2]) ++ b') ++ l') h0 (by omega) (by rw [← ix_cons]; exact h2) (by simp; omega) mr
  refine ⟨Mark.mk x here a2 :: (b' ++ (l' ++ r')),j,?_,by simp [szSl]; omega,?_⟩
  ·refine Ev.step (Ev.of_eq (g:=fun n=>(ref8_marks n x.Body here a2 i).bind fun r10=>bif room s_mark.i1.bytes (acc ++ [(Mark.mk x here a2)]).length r10.1.length then
     (ref8_marks n x.Else here a2 r10.2).bind fun r13=>bif room s_mark.i1.bytes ((acc ++ [(Mark.mk x here a2)]) ++ r10.1).length r13.1.length then
      ref8_marks_L0 n ((pre ++ [x]) ++ r) a1 a2 a3 r13.2 here (((acc ++ [(Mark.mk x here a2)]) ++ r10.1) ++ r13.1) ((pre ++ [x]).length) else none else none) (fun n=>?_) (Ev.bind e1 (Ev.yes (roomM _ _ (by simp; omega)) (Ev.bind e2 (Ev.yes (roomM _ _ (by simp; omega)) (by simpa using e3))))))
   simp only [ref8_marks_L0,ix_lt,cond_true,ix_get,Option.bind_some,roomM acc.length [Mark.mk x here a2].length (by simp; omega)]
   rw [ix_wr pre x (by omega),← ix_cons]
  ·intro m hm
   rcases List.mem_cons.1 hm with rfl | hm
   ·exact ⟨h0,by show here.length ≤ 20000; omega,mx⟩
   rcases List.mem_append.1 hm with hm | hm
   ·exact p1 m hm
   rcases List.mem_append.1 hm with hm | hm
   ·exact p2 m hm
   ·exact p3 m hm
theorem marks_ev (l : List Stmt) (a2 a3 : Int) (h : szSl l ≤ 10000) (hM : MkL l) : ∃ ms j,Ev (fun n=>ref8_marks n l [] a2 a3) (ms,j) ∧ ms.length ≤ szSl l ∧ ∀ m ∈ ms,PM m:=by
 have:=(marks_all.1 ⟨0,b0,b0,0,eN,l,[],c0⟩).1 [] a2 a3 (by simpa using h) hM
 exact this
theorem all_L0 (D : List Decl) (ts : List (List Stmt)) : ∀ (l pre : List (List Stmt)) (acc : List Mark) (i : Int),ts = pre ++ l → acc.length + szT l ≤ 10000 → ts.length ≤ 1000 → (∀ t ∈ l,MkL t) → (∀ m ∈ acc,PM m) →
  ∃ ms,Ev (fun n=>ref8_all_L0 n ⟨D,ts⟩ acc i pre.length) ms ∧ ms.length ≤ 10000 ∧ ∀ m ∈ ms,PM m
 | [],pre,acc,i,e,h,h2,hM,hA=>by
  rw [List.append_nil] at e; subst e
  exact ⟨acc,Ev.step (Ev.of_eq (g:=fun n=>some acc) (fun n=>by simp only [ref8_all_L0,ix_ge,cond_false]) (Ev.ret _)),by omega,hA⟩
 | t :: r,pre,acc,i,e,h,h2,hM,hA=>by
  rw [szT] at h
  have hp : pre.length + 1 ≤ 1000:=by rw [e] at h2; simp at h2; omega
  obtain ⟨mt,j,e1,l1,p1⟩:=marks_ev t (pre.length : Int) i (by omega) (hM t (by simp))
  obtain ⟨ms,e2,l2,p2⟩:=all_L0 D ts r (pre ++ [t]) (acc ++ mt) j (by rw [e]; exact ix_cons _ _ _) (by simp; omega) h2 (fun x hx=>hM x (by simp [hx])) (fun m hm=>by
   rcases List.mem_append.1 hm with hm | hm
   ·exact hA m hm
   ·exact p1 m hm)
  refine ⟨ms,?_,l2,p2⟩
  subst e
  refine Ev.step (Ev.of_eq (g:=fun n=>(ref8_marks n t [] (pre.length : Int) i).bind fun r5=>bif room s_mark.i1.bytes acc.length r5.1.length then ref8_all_L0 n ⟨D,pre ++ t :: r⟩ (acc ++ r5.1) r5.2 ((pre ++ [t]).length) else none) (fun n=>?_) (Ev.bind e1 (Ev.yes (roomM _ _ (by simp; omega)) e2)))
  simp only [ref8_all_L0,ix_lt,cond_true,ix_get,Option.bind_some]
  rw [ix_wr pre t (by omega)]
theorem all_ev (D : List Decl) (ts : List (List Stmt)) (h : szT ts ≤ 10000) (h2 : ts.length ≤ 1000) (hM : ∀ t ∈ ts,MkL t) : ∃ ms,Ev (fun n=>ref8_all n ⟨D,ts⟩) ms ∧ ms.length ≤ 10000 ∧ ∀ m ∈ ms,PM m:=by
 obtain ⟨ms,h1,h3⟩:=all_L0 D ts ts [] [] 0 rfl (by simpa using h) h2 hM (by simp)
 exact ⟨ms,Ev.of_eq (fun n=>by simp only [ref8_all]; rfl) h1,h3⟩
theorem inb_L0 (a0 : Int) (S : Stmt) (A : Int) : ∀ (l pre : List Int),(pre ++ l).length ≤ 1000000 → ∃ b,Ev (fun n=>ref8_within_L0 n a0 ⟨S,pre ++ l,A⟩ pre.length) b
 | [],pre,h=>⟨false,Ev.step (Ev.of_eq (g:=fun n=>some false) (fun n=>by simp only [ref8_within_L0,List.append_nil,ix_ge,cond_false]) (Ev.ret _))⟩
 | x :: r,pre,h=>by
  have hp : pre.length + 1 ≤ 1000000:=by simp at h; omega
  cases c : (x == a0)
  ·obtain ⟨b,hb⟩:=inb_L0 a0 S A r (pre ++ [x]) (by rw [← ix_cons]; exact h)
   refine ⟨b,Ev.step (Ev.of_eq (fun n=>?_) hb)⟩
   simp only [ref8_within_L0,ix_lt,ix_get,cond_true,Option.bind_some,c,cond_false]
   rw [ix_wr pre x (by omega),← ix_cons]
  ·exact ⟨true,Ev.step (Ev.of_eq (g:=fun n=>some true) (fun n=>by simp only [ref8_within_L0,ix_lt,ix_get,cond_true,Option.bind_some,c]) (Ev.ret _))⟩
theorem inb_ev (a0 : Int) (m : Mark) (h : PM m) : ∃ b,Ev (fun n=>ref8_within n a0 m) b:=by
 obtain ⟨S,B,A⟩:=m
 obtain ⟨b,hb⟩:=inb_L0 a0 S A B [] (by have:=h.2.1; simp only at this; simp; omega)
 exact ⟨b,Ev.of_eq (fun n=>by simp only [ref8_within]; rfl) hb⟩
theorem target_L0 (i : Nat) (mi : Mark) (hmi : PM mi) (b1 : Bool) : ∀ (l pre : List Mark),idx (pre ++ l) (i : Int) = some mi → (pre ++ l).length ≤ 100000 → (∀ m ∈ l,PM m) → ∃ r,Ev (fun n=>ref8_target_L0 n (pre ++ l) (i : Int) b1 pre.length) r
 | [],pre,hi,h,hP=>⟨-1,Ev.step (Ev.of_eq (g:=fun n=>some (-1)) (fun n=>by simp only [ref8_target_L0,List.append_nil,ix_ge,cond_false]) (Ev.ret _))⟩
 | x :: r,pre,hi,h,hP=>by
  have hp : pre.length + 1 ≤ 100000:=by simp at h; omega
  obtain ⟨q,hq⟩:=target_L0 i mi hmi b1 r (pre ++ [x]) (by rw [← ix_cons]; exact hi) (by rw [← ix_cons]; exact h) (fun m hm=>hP m (by simp [hm]))
  obtain ⟨B1,B2,B3⟩:=hP x (by simp)
  have hne : 0 < x.Block.length:=List.length_pos_iff.2 B1
  have hw : wr (ln x.Block - 1) = ((x.Block.length - 1 : Nat) : Int):=by
   show wr ((x.Block.length : Int) - 1) = _
   rw [wr_of (by omega)]; omega
  have hb : idx x.Block ((x.Block.length - 1 : Nat) : Int) = some (x.Block[x.Block.length - 1]'(by omega)):=idx_of (by omega) (by rw [Int.toNat_natCast]; exact List.getElem?_eq_getElem (by omega))
  obtain ⟨b,hW⟩:=inb_ev (x.Block[x.Block.length - 1]'(by omega)) mi hmi
  have base : ∀ n,ref8_target_L0 (n + 1) (pre ++ x :: r) (i : Int) b1 pre.length = jn (fun (b6 : Bool)=>bif b6 then some (pre.length : Int) else ref8_target_L0 n ((pre ++ [x]) ++ r) (i : Int) b1 ((pre ++ [x]).length)) fun J7 =>
    bif (x.S.Kind == 10) then bif bytesEq x.S.Name mi.S.Name then bif (x.At == mi.At) then (ref8_within n (x.Block[x.Block.length - 1]'(by omega)) mi).bind fun r12=>J7 r12 else J7 false else J7 false else J7 false:=by
   intro n
   simp only [ref8_target_L0,ix_lt,ix_get,cond_true,Option.bind_some,hi,hw,hb,ix_wr pre x (show pre.length + 1 ≤ 9223372036854775807 by omega)]
   rw [← ix_cons]
  cases c1 : (x.S.Kind == 10)
  ·exact ⟨q,Ev.step (Ev.of_eq (fun n=>by rw [base]; simp only [jn,c1,cond_false]) hq)⟩
  cases c2 : bytesEq x.S.Name mi.S.Name
  ·exact ⟨q,Ev.step (Ev.of_eq (fun n=>by rw [base]; simp only [jn,c1,c2,cond_false,cond_true]) hq)⟩
  cases c3 : (x.At == mi.At)
  ·exact ⟨q,Ev.step (Ev.of_eq (fun n=>by rw [base]; simp only [jn,c1,c2,c3,cond_false,cond_true]) hq)⟩
  cases b
  ·exact ⟨q,Ev.step (Ev.of_eq (fun n=>by rw [base]; simp only [jn,c1,c2,c3,cond_true]) (Ev.bind hW (g:=fun n r12=>bif r12 then some (pre.length : Int) else ref8_target_L0 n ((pre ++ [x]) ++ r) (i : Int) b1 ((pre ++ [x]).length)) (Ev.no rfl hq)))⟩
  ·exact ⟨_,Ev.step (Ev.of_eq (fun n=>by rw [base]; simp only [jn,c1,c2,c3,cond_true]) (Ev.bind hW (g:=fun n r12=>bif r12 then some (pre.length : Int) else ref8_target_L0 n ((pre ++ [x]) ++ r) (i : Int) b1 ((pre ++ [x]).length)) (Ev.yes rfl (Ev.ret _))))⟩
theorem target_ev (ms : List Mark) (i : Nat) (hi : i < ms.length) (hl : ms.length ≤ 10000) (hP : ∀ m ∈ ms,PM m) : ∃ r,Ev (fun n=>ref8_target n ms (i : Int)) r:=by
 have d1 : decide ((i : Int) < 0) = false:=decide_eq_false (by omega)
 have d2 : decide ((i : Int) ≥ ln ms) = false:=decide_eq_false (by show ¬ (i : Int) ≥ (ms.length : Int); omega)
 have i1 : idx ms (i : Int) = some ms[i]:=idx_of (by omega) (by rw [Int.toNat_natCast]; exact List.getElem?_eq_getElem hi)
 cases c : (ms[i].S.Kind != 9)
 ·have hmi:=hP _ (List.getElem_mem hi)
  have hw : wr ((i : Int) + 1) = ((ms.take (i + 1)).length : Int):=by rw [wr_of (by omega),List.length_take]; omega
  obtain ⟨r,hr⟩:=target_L0 i ms[i] hmi false (ms.drop (i + 1)) (ms.take (i + 1)) (by rw [List.take_append_drop]; exact i1) (by rw [List.take_append_drop]; omega) (fun m hm=>hP m (List.mem_of_mem_drop hm))
  refine ⟨r,Ev.of_eq (fun n=>?_) hr⟩
  simp only [ref8_target,jn,d1,d2,cond_false,i1,Option.bind_some,c,hw,List.take_append_drop]
 ·exact ⟨-1,Ev.of_eq (g:=fun n=>some (-1)) (fun n=>by simp only [ref8_target,jn,d1,d2,cond_false,i1,Option.bind_some,c,cond_true]) (Ev.ret _)⟩
def JR (r : Cx × Int) : Prop:=r.2 = 0 ∨ ∃ k : Nat,k ≤ 3000 ∧ r.1.re = FloatKind.f64.nearest (k : Int)
theorem Jumps_L1 (p : Prog) (r1 ms : List Mark) (i3 : Nat) (x4 : Mark) (b5 : Bool) (hx : PM x4) (hi : i3 ≤ ms.length) (hl : ms.length ≤ 10000)
  (next : ∃ r,Ev (fun n=>ref8_Jumps_L0 n p r1 ms (wr ((i3 : Int) + 1))) r ∧ JR r) :
  ∀ (m j : Nat),i3 - j ≤ m → j ≤ i3 → ∃ r,Ev (fun n=>ref8_Jumps_L1 n p r1 ms (i3 : Int) x4 b5 (j : Int)) r ∧ JR r
 | 0,j,h1,h2=>by
  obtain ⟨r,hr,hj⟩:=next
  have d1 : decide ((j : Int) < (i3 : Int)) = false:=decide_eq_false (by omega)
  exact ⟨r,Ev.step (Ev.of_eq (fun n=>by simp only [ref8_Jumps_L1,jn,d1,cond_false]) hr),hj⟩
 | m + 1,j,h1,h2=>by
  by_cases hj : j < i3
  ·have d1 : decide ((j : Int) < (i3 : Int)) = true:=decide_eq_true (by omega)
   have i1 : idx ms (j : Int) = some (ms[j]'(by omega)):=idx_of (by omega) (by rw [Int.toNat_natCast]; exact List.getElem?_eq_getElem (by omega))
   have e3 : wr ((j : Int) + 1) = ((j + 1 : Nat) : Int):=by rw [wr_of (by omega)]; rfl
   obtain ⟨q,hq,jq⟩:=Jumps_L1 p r1 ms i3 x4 b5 hx hi hl next m (j + 1) (by omega) (by omega)
   have bad : JR (x4.S.At,4):=.inr hx.2.2
   cases c0 : (x4.S.Kind == 10)
   ·obtain ⟨r,hr,hj⟩:=next
    exact ⟨r,Ev.step (Ev.of_eq (fun n=>by simp only [ref8_Jumps_L1,jn,d1,cond_true,c0,cond_false]) hr),hj⟩
   cases c1 : ((ms[j]'(by omega)).S.Kind == 10)
   ·exact ⟨q,Ev.step (Ev.of_eq (fun n=>by simp only [ref8_Jumps_L1,jn,d1,cond_true,c0,i1,Option.bind_some,c1,cond_false,e3]) hq),jq⟩
   cases c2 : bytesEq (ms[j]'(by omega)).S.Name x4.S.Name
   ·exact ⟨q,Ev.step (Ev.of_eq (fun n=>by simp only [ref8_Jumps_L1,jn,d1,cond_true,c0,i1,Option.bind_some,c1,c2,cond_false,e3]) hq),jq⟩
   cases c3 : ((ms[j]'(by omega)).At == x4.At)
   ·exact ⟨q,Ev.step (Ev.of_eq (fun n=>by simp only [ref8_Jumps_L1,jn,d1,cond_true,c0,i1,Option.bind_some,c1,c2,c3,cond_false,e3]) hq),jq⟩
   ·exact ⟨(x4.S.At,4),Ev.step (Ev.of_eq (g:=fun n=>some (x4.S.At,4)) (fun n=>by simp only [ref8_Jumps_L1,jn,d1,cond_true,c0,i1,Option.bind_some,c1,c2,c3]) (Ev.ret _)),bad⟩
  ·exact Jumps_L1 p r1 ms i3 x4 b5 hx hi hl next m j (by omega) (by omega)
theorem Jumps_L0 (p : Prog) (r1 ms : List Mark) (hl : ms.length ≤ 10000) (hP : ∀ m ∈ ms,PM m) : ∀ (m i : Nat),ms.length - i ≤ m → i ≤ ms.length → ∃ r,Ev (fun n=>ref8_Jumps_L0 n p r1 ms (i : Int)) r ∧ JR r
 | 0,i,h1,h2=>by
  have d1 : decide ((i : Int) < ln ms) = false:=decide_eq_false (by show ¬ (i : Int) < (ms.length : Int); omega)
  exact ⟨(c0,0),Ev.step (Ev.of_eq (g:=fun n=>some (c0,0)) (fun n=>by simp only [ref8_Jumps_L0,d1,cond_false]) (Ev.ret _)),.inl rfl⟩
 | m + 1,i,h1,h2=>by
  by_cases hi : i < ms.length
  ·have d1 : decide ((i : Int) < ln ms) = true:=decide_eq_true (by show (i : Int) < (ms.length : Int); omega)
   have i1 : idx ms (i : Int) = some ms[i]:=idx_of (by omega) (by rw [Int.toNat_natCast]; exact List.getElem?_eq_getElem hi)
   have e3 : wr ((i : Int) + 1) = ((i + 1 : Nat) : Int):=by rw [wr_of (by omega)]; rfl
   have hx:=hP _ (List.getElem_mem hi)
   have next:=Jumps_L0 p r1 ms hl hP m (i + 1) (by omega) (by omega)
   rw [← e3] at next
   have inner : ∀ b5,∃ r,Ev (fun n=>ref8_Jumps_L1 n p r1 ms (i : Int) ms[i] b5 0) r ∧ JR r:=fun b5=>Jumps_L1 p r1 ms i ms[i] b5 hx h2 hl next i 0 (by omega) (by omega)
   cases c1 : (ms[i].S.Kind == 9)
   ·obtain ⟨r,hr,hj⟩:=inner false
    exact ⟨r,Ev.step (Ev.of_eq (fun n=>by simp only [ref8_Jumps_L0,d1,cond_true,i1,Option.bind_some,jn,c1,cond_false]) hr),hj⟩
   ·obtain ⟨t,ht⟩:=target_ev ms i hi hl hP
    cases c2 : decide (t < 0)
    ·obtain ⟨r,hr,hj⟩:=inner false
     refine ⟨r,Ev.step (Ev.of_eq (g:=fun n=>(ref8_target n ms (i : Int)).bind fun r7=>bif decide (r7 < 0) then some (ms[i].S.At,4) else ref8_Jumps_L1 n p r1 ms (i : Int) ms[i] (decide (r7 < 0)) 0) (fun n=>?_) (Ev.bind ht (Ev.no c2 (by rw [c2]; exact hr)))),hj⟩
     simp only [ref8_Jumps_L0,d1,cond_true,i1,Option.bind_some,jn,c1]
    ·refine ⟨(ms[i].S.At,4),Ev.step (Ev.of_eq (g:=fun n=>(ref8_target n ms (i : Int)).bind fun r7=>bif decide (r7 < 0) then some (ms[i].S.At,4) else ref8_Jumps_L1 n p r1 ms (i : Int) ms[i] (decide (r7 < 0)) 0) (fun n=>?_) (Ev.bind ht (Ev.yes c2 (Ev.ret _)))),.inr hx.2.2⟩
     simp only [ref8_Jumps_L0,d1,cond_true,i1,Option.bind_some,jn,c1]
  ·exact Jumps_L0 p r1 ms hl hP m i (by omega) h2
theorem Jumps_ev (D : List Decl) (ts : List (List Stmt)) (h : szT ts ≤ 10000) (h2 : ts.length ≤ 1000) (hM : ∀ t ∈ ts,MkL t) : ∃ r,Ev (fun n=>ref8_Jumps n ⟨D,ts⟩) r ∧ JR r:=by
 obtain ⟨ms,e1,l1,p1⟩:=all_ev D ts h h2 hM
 obtain ⟨r,e2,j2⟩:=Jumps_L0 ⟨D,ts⟩ ms ms l1 p1 ms.length 0 (by omega) (by omega)
 exact ⟨r,Ev.of_eq (g:=fun n=>(ref8_all n ⟨D,ts⟩).bind fun r1=>ref8_Jumps_L0 n ⟨D,ts⟩ r1 r1 0) (fun n=>by simp only [ref8_Jumps]) (Ev.bind e1 e2),j2⟩
theorem okH_re {k m : Int} {w v : ByteArray} {e : Expr} {b l b' l' : List Stmt} {a : Cx} (h : okH ⟨k,w,v,m,e,b,l,a⟩) (hb : b = [] → b' = []) (hl : l = [] → l' = []) : okH ⟨k,w,v,m,e,b',l',a⟩:=by
 cases h
 case assign=>obtain rfl:=hb rfl; obtain rfl:=hl rfl; constructor <;> assumption
 case lock=>obtain rfl:=hb rfl; obtain rfl:=hl rfl; constructor
 case unlock=>obtain rfl:=hb rfl; obtain rfl:=hl rfl; constructor
 case send=>obtain rfl:=hb rfl; obtain rfl:=hl rfl; constructor <;> assumption
 case recv=>obtain rfl:=hb rfl; obtain rfl:=hl rfl; constructor <;> assumption
 case print=>obtain rfl:=hb rfl; obtain rfl:=hl rfl; constructor <;> assumption
 case cond=>constructor <;> assumption
 case rep=>obtain rfl:=hl rfl; constructor <;> assumption
 case goto=>obtain rfl:=hb rfl; obtain rfl:=hl rfl; constructor <;> assumption
 case label=>obtain rfl:=hb rfl; obtain rfl:=hl rfl; constructor <;> assumption
theorem okS_re {d : Nat} (s : Stmt) {b' l' : List Stmt} (h : okS d s) (ob : okSl (d - 1) b') (ol : okSl (d - 1) l') (hb : s.Body = [] → b' = []) (hl : s.Else = [] → l' = []) : okS d ⟨s.Kind,s.Name,s.Other,s.N,s.E,b',l',s.At⟩:=by
 cases s with
 | mk k w v m e b l a =>
  rw [okS] at h ⊢
  obtain ⟨h1,h2,h3,h4,h5⟩:=h
  exact ⟨okH_re h1 hb hl,fun h=>⟨hb (h2 h).1,hl (h2 h).2⟩,h3,ob,ol⟩
theorem cut_all (site : Int) : (∀ s : Stmt,∀ d,okS d s → wt s ≤ 100000 → (∀ i : Int,∃ b' j,Ev (fun n=>hand_cut n s.Body site i) (b',j) ∧ okSl (d - 1) b' ∧ wtl b' ≤ wtl s.Body ∧ (s.Body = [] → b' = [])) ∧
   ∀ i : Int,∃ b' j,Ev (fun n=>hand_cut n s.Else site i) (b',j) ∧ okSl (d - 1) b' ∧ wtl b' ≤ wtl s.Else ∧ (s.Else = [] → b' = [])) ∧
  ∀ l : List Stmt,∀ d,okSl d l → wtl l ≤ 100000 → ∀ (a2 : Int) (pre acc : List Stmt) (i : Int),(pre ++ l).length ≤ 1000000 → acc.length + l.length ≤ 1000000 →
   ∃ l' j,Ev (fun n=>hand_cut_L0 n (pre ++ l) site a2 i acc pre.length) (acc ++ l',j) ∧ okSl d l' ∧ wtl l' ≤ wtl l ∧ (l = [] → l' = []):=by
 refine stmt_ind ?_ ?_ ?_
 ·intro k w v m e b l a hb hl d h hw
  rw [okS] at h
  rw [wt] at hw
  obtain ⟨_,_,_,h4,h5⟩:=h
  have lb:=len_Sl b
  have ll:=len_Sl l
  have wb:=szS_wt.2 b _ h4
  have wl:=szS_wt.2 l _ h5
  constructor
  ·intro i
   obtain ⟨l',j,h1,h2⟩:=hb (d - 1) h4 (by omega) i [] [] i (by simp; omega) (by simp; omega)
   exact ⟨l',j,Ev.step (Ev.of_eq (fun n=>by simp only [hand_cut]; rfl) h1),h2⟩
  ·intro i
   obtain ⟨l',j,h1,h2⟩:=hl (d - 1) h5 (by omega) i [] [] i (by simp; omega) (by simp; omega)
   exact ⟨l',j,Ev.step (Ev.of_eq (fun n=>by simp only [hand_cut]; rfl) h1),h2⟩
 ·intro d _ _ a2 pre acc i h1 h2
  exact ⟨[],i,Ev.step (Ev.of_eq (g:=fun n=>some (acc,i)) (fun n=>by simp only [hand_cut_L0,List.append_nil,ix_ge,cond_false]) (by simpa using Ev.ret _)),by rw [okSl]; trivial,by omega,fun _=>rfl⟩
 ·intro x r ihx ihr d ho hw a2 pre acc i h1 h2
  rw [okSl] at ho
  rw [wtl] at hw
  have hp : pre.length + 1 ≤ 1000000:=by simp at h1; omega
  have ha : acc.length + 1 + r.length ≤ 1000000:=by simp at h2; omega
  obtain ⟨b',j1,e1,o1,w1,n1⟩:=(ihx d ho.1 (by omega)).1 (wr (i + 1))
  obtain ⟨l',j2,e2,o2,w2,n2⟩:=(ihx d ho.1 (by omega)).2 j1
  have ox:=okS_re x ho.1 o1 o2 n1 n2
  have wx:=wt_eq x
  cases c : (i != site)
  ·obtain ⟨r',j,e3,o3,w3,n3⟩:=ihr d ho.2 (by omega) a2 (pre ++ [x]) acc j2 (by rw [← ix_cons]; exact h1) (by omega)
   refine ⟨r',j,?_,o3,by rw [wtl]; omega,fun h=>by simp at h⟩
   refine Ev.step (Ev.of_eq (g:=fun n=>(hand_cut n x.Body site (wr (i + 1))).bind fun r9=>(hand_cut n x.Else site r9.2).bind fun r11=>hand_cut_L0 n ((pre ++ [x]) ++ r) site a2 r11.2 acc ((pre ++ [x]).length)) (fun n=>?_) (Ev.bind e1 (Ev.bind e2 e3)))
   simp only [hand_cut_L0,jn,ix_lt,cond_true,ix_get,Option.bind_some,c,cond_false]
   rw [ix_wr pre x (by omega),← ix_cons]
  ·obtain ⟨r',j,e3,o3,w3,n3⟩:=ihr d ho.2 (by omega) a2 (pre ++ [x]) (acc ++ [Stmt.mk x.Kind x.Name x.Other x.N x.E b' l' x.At]) j2 (by rw [← ix_cons]; exact h1) (by simp; omega)
   refine ⟨Stmt.mk x.Kind x.Name x.Other x.N x.E b' l' x.At :: r',j,?_,by rw [okSl]; exact ⟨ox,o3⟩,by rw [wtl,wtl,wt]; omega,fun h=>by simp at h⟩
   refine Ev.step (Ev.of_eq (g:=fun n=>(hand_cut n x.Body site (wr (i + 1))).bind fun r9=>(hand_cut n x.Else site r9.2).bind fun r11 =>
    bif room s_Stmt.i1.bytes acc.length [(Stmt.mk x.Kind x.Name x.Other x.N x.E r9.1 r11.1 x.At)].length then hand_cut_L0 n ((pre ++ [x]) ++ r) site a2 r11.2 (acc ++ [(Stmt.mk x.Kind x.Name x.Other x.N x.E r9.1 r11.1 x.At)]) ((pre ++ [x]).length) else none) (fun n=>?_) (Ev.bind e1 (Ev.bind e2 (Ev.yes (room32 _ (by omega) _) (by simpa using e3)))))
   simp only [hand_cut_L0,jn,ix_lt,cond_true,ix_get,Option.bind_some,c]
   rw [ix_wr pre x (by omega),← ix_cons]
theorem cut_ev (site : Int) (l : List Stmt) (d : Nat) (i : Int) (ho : okSl d l) (hw : wtl l ≤ 10000) : ∃ l' j,Ev (fun n=>hand_cut n l site i) (l',j) ∧ okSl d l' ∧ wtl l' ≤ wtl l:=by
 have ll:=len_Sl l
 have wl:=szS_wt.2 l _ ho
 obtain ⟨l',j,h1,h2,h3,_⟩:=(cut_all site).2 l d ho (by omega) i [] [] i (by simp; omega) (by simp; omega)
 exact ⟨l',j,Ev.step (Ev.of_eq (fun n=>by simp only [hand_cut]; rfl) h1),h2,h3⟩
theorem without_L0 (D : List Decl) (ts : List (List Stmt)) (site : Int) : ∀ (l pre acc : List (List Stmt)) (i : Int),ts = pre ++ l → ts.length ≤ 1000 → acc.length + l.length ≤ 1000 → okTs l → okTs acc →
  ∃ l',Ev (fun n=>hand_without_L0 n ⟨D,ts⟩ site i acc pre.length) ⟨D,l'⟩ ∧ okTs l' ∧ l'.length = acc.length + l.length
 | [],pre,acc,i,e,h2,h3,o1,o2=>by
  rw [List.append_nil] at e; subst e
  exact ⟨acc,Ev.step (Ev.of_eq (g:=fun n=>some ⟨D,acc⟩) (fun n=>by simp only [hand_without_L0,ix_ge,cond_false]) (Ev.ret _)),o2,by simp⟩
 | t :: r,pre,acc,i,e,h2,h3,o1,o2=>by
  have hp : pre.length + 1 ≤ 1000:=by rw [e] at h2; simp at h2; omega
  have ha : acc.length + 1 + r.length ≤ 1000:=by simp at h3; omega
  obtain ⟨ot,wt_⟩:=o1 t (by simp)
  obtain ⟨t',j,e1,p1,w1⟩:=cut_ev site t 2 i ot (by omega)
  obtain ⟨l',e2,p2,w2⟩:=without_L0 D ts site r (pre ++ [t]) (acc ++ [t']) j (by rw [e]; exact ix_cons _ _ _) h2 (by simp; omega) (fun x hx=>o1 x (by simp [hx])) (fun x hx=>by
   rcases List.mem_append.1 hx with hx | hx
   ·exact o2 x hx
   ·rw [List.mem_singleton] at hx; subst hx; exact ⟨p1,by omega⟩)
  refine ⟨l',?_,p2,by rw [w2]; simp; omega⟩
  subst e
  refine Ev.step (Ev.of_eq (g:=fun n=>(hand_cut n t site i).bind fun r5=>bif room s_LStmt.i1.bytes acc.length [r5.1].length then hand_without_L0 n ⟨D,pre ++ t :: r⟩ site r5.2 (acc ++ [r5.1]) ((pre ++ [t]).length) else none) (fun n=>?_) (Ev.bind e1 (Ev.yes (roomT _ _ (by simp; omega)) e2)))
  simp only [hand_without_L0,ix_lt,cond_true,ix_get,Option.bind_some]
  rw [ix_wr pre t (by omega)]
theorem szT_ok : ∀ ts : List (List Stmt),okTs ts → szT ts ≤ 641 * ts.length
 | [],_=>by simp [szT]
 | t :: r,h=>by
  have h1:=h t (by simp)
  have h2:=szT_ok r (fun x hx=>h x (by simp [hx]))
  have h3:=szS_wt.2 t 2 h1.1
  rw [szT,List.length_cons]; omega
theorem fixed_L0 (a0 : Prog) (D : List Decl) : ∀ (m i : Nat),40 - i ≤ m → i ≤ 40 → ∀ ts,okTs ts → ts.length ≤ 3 → ∃ ts',Ev (fun n=>hand_fixed_L0 n a0 ⟨D,ts⟩ (i : Int)) ⟨D,ts'⟩ ∧ okTs ts' ∧ ts'.length ≤ 3
 | 0,i,h1,h2,ts,ho,hl=>by
  have d1 : decide ((i : Int) < 40) = false:=decide_eq_false (by omega)
  exact ⟨[[]],Ev.step (Ev.of_eq (g:=fun n=>some ⟨D,[[]]⟩) (fun n=>by simp only [hand_fixed_L0,d1,cond_false]) (Ev.ret _)),fun t ht=>by
   rw [List.mem_singleton] at ht; subst ht
   exact ⟨by rw [okSl]; trivial,by rw [wtl]; omega⟩,by simp⟩
 | m + 1,i,h1,h2,ts,ho,hl=>by
  by_cases hi : i < 40
  ·have d1 : decide ((i : Int) < 40) = true:=decide_eq_true (by omega)
   have e3 : wr ((i : Int) + 1) = ((i + 1 : Nat) : Int):=by rw [wr_of (by omega)]; rfl
   have hz:=szT_ok ts ho
   obtain ⟨ts1,k1,k2,k3,k4⟩:=mark_ev D ts (by omega) (by omega)
   obtain ⟨r,k5,k6⟩:=Jumps_ev D ts1 (by omega) (by omega) k2
   cases c : (r.2 == 0)
   ·obtain ⟨k,hk,hr⟩ : ∃ k : Nat,k ≤ 3000 ∧ r.1.re = FloatKind.f64.nearest (k : Int):=by
     rcases k6 with h | h
     ·rw [h] at c; cases c
     ·exact h
    have hf : f2i r.1.re = some (k : Int):=by rw [hr]; exact f2i_of k hk
    obtain ⟨ts2,k7,k8,k9⟩:=without_L0 D ts (k : Int) ts [] [] 0 rfl (by omega) (by simp; omega) ho (fun t ht=>by simp at ht)
    have hwo : Ev (fun n=>hand_without n ⟨D,ts⟩ (k : Int)) ⟨D,ts2⟩:=Ev.of_eq (fun n=>by simp only [hand_without]; rfl) k7
    obtain ⟨ts3,q1,q2⟩:=fixed_L0 a0 D m (i + 1) (by omega) (by omega) ts2 k8 (by rw [k9]; simpa using hl)
    refine ⟨ts3,Ev.step (Ev.of_eq (g:=fun n=>(hand_mark n ⟨D,ts⟩).bind fun r3=>(ref8_Jumps n r3).bind fun r4=>bif (r4.2 == 0) then some ⟨D,ts⟩ else (f2i r4.1.re).bind fun x5=>(hand_without n ⟨D,ts⟩ x5).bind fun r6=>hand_fixed_L0 n a0 r6 ((i + 1 : Nat) : Int)) (fun n=>?_) (Ev.bind k1 (Ev.bind k5 (Ev.no c (Ev.opt hf (Ev.bind hwo q1)))))),q2⟩
    simp only [hand_fixed_L0,d1,cond_true,e3]
   ·refine ⟨ts,Ev.step (Ev.of_eq (g:=fun n=>(hand_mark n ⟨D,ts⟩).bind fun r3=>(ref8_Jumps n r3).bind fun r4=>bif (r4.2 == 0) then some ⟨D,ts⟩ else (f2i r4.1.re).bind fun x5=>(hand_without n ⟨D,ts⟩ x5).bind fun r6=>hand_fixed_L0 n a0 r6 ((i + 1 : Nat) : Int)) (fun n=>?_) (Ev.bind k1 (Ev.bind k5 (Ev.yes c (Ev.ret _))))),ho,hl⟩
    simp only [hand_fixed_L0,d1,cond_true,e3]
  ·exact fixed_L0 a0 D m i (by omega) h2 ts ho hl
theorem Good_ev (how : Int) (a b c : List Act) (most : Int) (hm : most ≤ 100) : ∃ w,Ev (fun n=>hand_Good n how a b c most) w:=by
 obtain ⟨D,ts,hp,oD,ots,hlen⟩:=prog_ev how a b c most hm
 obtain ⟨ts',hf,ots',hlen'⟩:=fixed_L0 ⟨D,ts⟩ D 40 0 (by omega) (by omega) ts ots (by omega)
 obtain ⟨oSD,oSn⟩:=okSD_of oD
 obtain ⟨w,hw⟩:=Show_ev D ts' oSD oSn (fun t ht=>⟨2,(ots' t ht).1,by have:=(ots' t ht).2; omega⟩) (by omega)
 have hfx : Ev (fun n=>hand_fixed n ⟨D,ts⟩) ⟨D,ts'⟩:=Ev.of_eq (fun n=>by simp only [hand_fixed]; rfl) hf
 exact ⟨w,Ev.of_eq (g:=fun n=>(hand_Prog n how a b c most).bind fun r1=>(hand_fixed n r1).bind fun r2=>(ref1_Show n r2).bind fun r3=>some r3) (fun n=>by simp only [hand_Good]) (Ev.bind hp (Ev.bind hfx (Ev.bind hw (Ev.ret _))))⟩
end Go.Su.Ytkmcnajbhclimaa
namespace Go.Su.Ytkmcnajbhclimaa
open Go.Mx Go.Proofs
set_option linter.unusedVariables false
set_option linter.unusedSimpArgs false
set_option maxHeartbeats 4000000
theorem idxS_of (s : ByteArray) (i : Nat) (h : i < s.size) : ∃ x,idxS s (i : Int) = some x ∧ 0 ≤ x ∧ x ≤ 255:=by
 refine ⟨(s[i].toNat : Int),?_,by omega,by have:=s[i].toNat_lt; omega⟩
 unfold idxS
 have h1 : decide ((i : Int) < 0) = false:=decide_eq_false (by omega)
 rw [h1,cond_false,Int.toNat_natCast,getElem?_pos s i h]; rfl
theorem ssub_of (s : ByteArray) (a b : Nat) (h1 : a ≤ b) (h2 : b ≤ s.size) : ∃ w,ssub s (a : Int) (b : Int) = some w ∧ w.size = b - a:=by
 refine ⟨exS s a b,?_,?_⟩
 ·unfold ssub
  have : (decide ((0 : Int) ≤ a) && decide ((a : Int) ≤ b) && decide ((b : Int) ≤ s.size)) = true:=by simp; omega
  rw [this]; simp
 ·rw [exS_eq,ByteArray.size_extract]; omega
theorem letter_ev (x : Int) : ∃ b,∀ n,ref1_letter n x = some b:=by
 unfold ref1_letter jn
 cases decide (x ≥ 97)
 ·exact ⟨false,fun _=>rfl⟩
 ·exact ⟨decide (x ≤ 122),fun _=>rfl⟩
theorem digit_ev (x : Int) : ∃ b,∀ n,ref1_digit n x = some b:=by
 unfold ref1_digit jn
 cases decide (x ≥ 48)
 ·exact ⟨false,fun _=>rfl⟩
 ·exact ⟨decide (x ≤ 57),fun _=>rfl⟩
theorem number_L0 (s : ByteArray) (hs : s.size ≤ 6000) : ∀ (j i : Nat) (v : Int),s.size - i ≤ j → i ≤ s.size → 0 ≤ v → v ≤ 9223372036854775807 → ∃ r b,Ev (fun n=>ref1_number_L0 n s v (i : Int)) (r,b) ∧ 0 ≤ r:=by
 intro j
 induction j with
 | zero =>
  intro i v hj hi h0 h1
  have hlt : decide ((i : Int) < (s.size : Int)) = false:=decide_eq_false (by omega)
  cases hb : bytesEq s b0
  ·have hsz : 0 < s.size:=by
    rcases Nat.eq_zero_or_pos s.size with h | h
    ·have : s = b0:=by
      cases s with | mk a=>cases a with | mk l =>
      cases l with
      | nil=>rfl
      | cons x r=>simp [ByteArray.size] at h
     rw [this] at hb; simp [bytesEq_eq] at hb
    ·exact h
   obtain ⟨x,hx,_⟩:=idxS_of s 0 hsz
   have hx' : idxS s 0 = some x:=hx
   cases hq : (x != 48)
   ·exact ⟨v,bytesEq s x_30,Ev.step (Ev.of_eq (g:=fun n=>some (v,bytesEq s x_30)) (fun n=>by simp only [ref1_number_L0,hlt,cond_false,jn,hb,Bool.not_false,cond_true,hx',Option.bind_some,hq]) (Ev.ret _)),h0⟩
   ·exact ⟨v,true,Ev.step (Ev.of_eq (g:=fun n=>some (v,true)) (fun n=>by simp only [ref1_number_L0,hlt,cond_false,jn,hb,Bool.not_false,cond_true,hx',Option.bind_some,hq]) (Ev.ret _)),h0⟩
  ·exact ⟨v,false,Ev.step (Ev.of_eq (g:=fun n=>some (v,false)) (fun n=>by simp only [ref1_number_L0,hlt,cond_false,jn,hb,Bool.not_true]) (Ev.ret _)),h0⟩
 | succ j ih =>
  intro i v hj hi h0 h1
  by_cases hlt : i < s.size
  ·have d1 : decide ((i : Int) < (s.size : Int)) = true:=decide_eq_true (by omega)
   obtain ⟨x,hx,x0,x1⟩:=idxS_of s i hlt
   have hd0 : 0 ≤ IntKind.u8.wrap (x - 48) ∧ IntKind.u8.wrap (x - 48) ≤ 255:=by
    simp only [IntKind.wrap,IntKind.bits,IntKind.signed,Bool.false_and,Bool.false_eq_true,if_false]
    omega
   have hw : wr (IntKind.u8.wrap (x - 48)) = IntKind.u8.wrap (x - 48):=wr_of (by omega)
   generalize hdef : IntKind.u8.wrap (x - 48) = d at hd0 hw
   have hw2 : wr (9223372036854775807 - d) = 9223372036854775807 - d:=wr_of (by omega)
   have ht : (9223372036854775807 - d).tdiv 10 = (9223372036854775807 - d) / 10:=Int.tdiv_eq_ediv_of_nonneg (by omega)
   have hw3 : wr ((9223372036854775807 - d) / 10) = (9223372036854775807 - d) / 10:=wr_of (by omega)
   by_cases hbig : v > (9223372036854775807 - d) / 10
   ·refine ⟨0,false,Ev.step (Ev.of_eq (g:=fun n=>some (0,false)) (fun n=>?_) (Ev.ret _)),Int.le_refl _⟩
    simp only [ref1_number_L0,d1,cond_true,hx,Option.bind_some,hdef,hw,hw2,ht,hw3,decide_eq_true hbig]
   ·have hv : 10 * v + d ≤ 9223372036854775807:=by omega
    obtain ⟨r,b,k1,k2⟩:=ih (i + 1) (10 * v + d) (by omega) (by omega) (by omega) hv
    refine ⟨r,b,Ev.step (Ev.of_eq (fun n=>?_) k1),k2⟩
    have e1 : wr (10 * v) = 10 * v:=wr_of (by omega)
    have e2 : wr (10 * v + d) = 10 * v + d:=wr_of (by omega)
    have e3 : wr ((i : Int) + 1) = ((i + 1 : Nat) : Int):=by rw [wr_of (by omega)]; rfl
    simp only [ref1_number_L0,d1,cond_true,hx,Option.bind_some,hdef,hw,hw2,ht,hw3,decide_eq_false hbig,cond_false,e1,e2,e3]
  ·obtain ⟨r,b,k1,k2⟩ : ∃ r b,Ev (fun n=>ref1_number_L0 n s v (i : Int)) (r,b) ∧ 0 ≤ r:=by
    have : s.size - i ≤ j:=by omega
    exact ih i v this hi h0 h1
   exact ⟨r,b,k1,k2⟩
theorem number_ev (s : ByteArray) (hs : s.size ≤ 6000) : ∃ r b,Ev (fun n=>ref1_number n s) (r,b) ∧ 0 ≤ r:=by
 obtain ⟨r,b,k1,k2⟩:=number_L0 s hs s.size 0 0 (by omega) (by omega) (by omega) (by omega)
 exact ⟨r,b,Ev.of_eq (fun n=>by simp only [ref1_number]; rfl) k1,k2⟩
def okOne (s : ByteArray) (i : Nat) (t : Token) (k : Int) : Prop:=k = 0 ∨ (1 ≤ k ∧ (i : Int) + k ≤ s.size ∧ 1 ≤ t.Kind ∧ t.Kind ≤ 3 ∧ 0 ≤ t.N)
theorem one_L0 (s : ByteArray) (hs : s.size ≤ 6000) (at_ : Nat) (x1 : Int) (r2 : Bool) (w4 : ByteArray) : ∀ (j i : Nat),s.size - i ≤ j → at_ + 1 ≤ i → i ≤ s.size → ∃ t k,Ev (fun n=>ref1_one_L0 n s at_ x1 r2 w4 (i : Int)) (t,k) ∧ okOne s at_ t k:=by
 intro j
 induction j with
 | zero =>
  intro i hj h1 hi
  have hlt : decide ((i : Int) < (s.size : Int)) = false:=decide_eq_false (by omega)
  have e : wr ((i : Int) - (at_ : Int)) = (i : Int) - at_:=wr_of (by omega)
  obtain ⟨w,hw,_⟩:=ssub_of s at_ i (by omega) hi
  by_cases hb : (i : Int) - at_ > 12
  ·exact ⟨_,_,Ev.step (Ev.of_eq (g:=fun n=>some (⟨0,b0,0,0⟩,0)) (fun n=>by simp only [ref1_one_L0,jn,hlt,cond_false,e,decide_eq_true hb,cond_true]) (Ev.ret _)),.inl rfl⟩
  ·exact ⟨_,_,Ev.step (Ev.of_eq (g:=fun n=>some (⟨1,w,0,at_⟩,(i : Int) - at_)) (fun n=>by simp only [ref1_one_L0,jn,hlt,cond_false,e,decide_eq_false hb,hw,Option.bind_some]) (Ev.ret _)),.inr ⟨by omega,by omega,by simp,by simp,by simp⟩⟩
 | succ j ih =>
  intro i hj h1 hi
  have e : wr ((i : Int) - (at_ : Int)) = (i : Int) - at_:=wr_of (by omega)
  have e3 : wr ((i : Int) + 1) = ((i + 1 : Nat) : Int):=by rw [wr_of (by omega)]; rfl
  obtain ⟨w,hw,_⟩:=ssub_of s at_ i (by omega) hi
  by_cases hlt : i < s.size
  ·have d1 : decide ((i : Int) < (s.size : Int)) = true:=decide_eq_true (by omega)
   obtain ⟨x,hx,_⟩:=idxS_of s i hlt
   obtain ⟨bl,hbl⟩:=letter_ev x
   obtain ⟨bd,hbd⟩:=digit_ev x
   obtain ⟨t,k,k1,k2⟩:=ih (i + 1) (by omega) (by omega) (by omega)
   cases bl
   ·cases bd
    ·by_cases hb : (i : Int) - at_ > 12
     ·exact ⟨_,_,Ev.step (Ev.of_eq (g:=fun n=>some (⟨0,b0,0,0⟩,0)) (fun n=>by simp only [ref1_one_L0,jn,d1,cond_true,hx,Option.bind_some,hbl,hbd,cond_false,e,decide_eq_true hb]) (Ev.ret _)),.inl rfl⟩
     ·exact ⟨_,_,Ev.step (Ev.of_eq (g:=fun n=>some (⟨1,w,0,at_⟩,(i : Int) - at_)) (fun n=>by simp only [ref1_one_L0,jn,d1,cond_true,hx,Option.bind_some,hbl,hbd,cond_false,e,decide_eq_false hb,hw]) (Ev.ret _)),.inr ⟨by omega,by omega,by simp,by simp,by simp⟩⟩
    ·exact ⟨t,k,Ev.step (Ev.of_eq (fun n=>by simp only [ref1_one_L0,jn,d1,cond_true,hx,Option.bind_some,hbl,hbd,cond_false,e3]) k1),k2⟩
   ·exact ⟨t,k,Ev.step (Ev.of_eq (fun n=>by simp only [ref1_one_L0,jn,d1,cond_true,hx,Option.bind_some,hbl,e3]) k1),k2⟩
  ·exact ih i (by omega) h1 hi
theorem one_L1 (s : ByteArray) (hs : s.size ≤ 6000) (at_ : Nat) (x1 : Int) (r2 r13 : Bool) (w4 : ByteArray) : ∀ (j i : Nat),s.size - i ≤ j → at_ + 1 ≤ i → i ≤ s.size → ∃ t k,Ev (fun n=>ref1_one_L1 n s at_ x1 r2 r13 w4 (i : Int)) (t,k) ∧ okOne s at_ t k:=by
 have fin : ∀ i : Nat,at_ + 1 ≤ i → i ≤ s.size → ∃ t k,Ev (fun n=>(ssub s (at_ : Int) (i : Int)).bind fun w21=>(ref1_number n w21).bind fun r22=>bif !r22.2 then some (Token.mk 0 b0 0 0,0) else (ssub s (at_ : Int) (i : Int)).bind fun w23=>some (Token.mk 2 w23 r22.1 at_,wr ((i : Int) - at_))) (t,k) ∧ okOne s at_ t k:=by
  intro i h1 hi
  have e : wr ((i : Int) - (at_ : Int)) = (i : Int) - at_:=wr_of (by omega)
  obtain ⟨w,hw,hsz⟩:=ssub_of s at_ i (by omega) hi
  obtain ⟨r,b,k1,k2⟩:=number_ev w (by omega)
  simp only [hw,Option.bind_some,e]
  cases b
  ·exact ⟨_,_,Ev.bind k1 (Ev.ret _),.inl rfl⟩
  ·exact ⟨_,_,Ev.bind k1 (Ev.ret _),.inr ⟨by omega,by omega,by simp,by simp,by simpa using k2⟩⟩
 intro j
 induction j with
 | zero =>
  intro i hj h1 hi
  have hlt : decide ((i : Int) < (s.size : Int)) = false:=decide_eq_false (by omega)
  obtain ⟨t,k,k1,k2⟩:=fin i h1 hi
  exact ⟨t,k,Ev.step (Ev.of_eq (fun n=>by simp only [ref1_one_L1,jn,hlt,cond_false]) k1),k2⟩
 | succ j ih =>
  intro i hj h1 hi
  have e3 : wr ((i : Int) + 1) = ((i + 1 : Nat) : Int):=by rw [wr_of (by omega)]; rfl
  by_cases hlt : i < s.size
  ·have d1 : decide ((i : Int) < (s.size : Int)) = true:=decide_eq_true (by omega)
   obtain ⟨x,hx,_⟩:=idxS_of s i hlt
   obtain ⟨bd,hbd⟩:=digit_ev x
   cases bd
   ·obtain ⟨t,k,k1,k2⟩:=fin i h1 hi
    exact ⟨t,k,Ev.step (Ev.of_eq (fun n=>by simp only [ref1_one_L1,jn,d1,cond_true,hx,Option.bind_some,hbd,cond_false]) k1),k2⟩
   ·obtain ⟨t,k,k1,k2⟩:=ih (i + 1) (by omega) (by omega) (by omega)
    exact ⟨t,k,Ev.step (Ev.of_eq (fun n=>by simp only [ref1_one_L1,jn,d1,cond_true,hx,Option.bind_some,hbd,e3]) k1),k2⟩
  ·exact ih i (by omega) h1 hi
theorem one_L2 (s : ByteArray) (hs : s.size ≤ 6000) (at_ : Nat) (hat : at_ < s.size) (x1 : Int) (r2 r13 b25 : Bool) (w4 : ByteArray) : ∀ (j i : Nat),11 - i ≤ j → i ≤ 11 → ∃ t k,Ev (fun n=>ref1_one_L2 n s at_ x1 r2 r13 w4 b25 (i : Int)) (t,k) ∧ okOne s at_ t k:=by
 intro j
 induction j with
 | zero =>
  intro i hj hi
  have : i = 11:=by omega
  subst this
  exact ⟨_,_,Ev.step (Ev.of_eq (g:=fun n=>some (⟨0,b0,0,0⟩,0)) (fun n=>by simp only [ref1_one_L2]; rfl) (Ev.ret _)),.inl rfl⟩
 | succ j ih =>
  intro i hj hi
  by_cases hlt : i < 11
  ·have d1 : decide ((i : Int) < 11) = true:=decide_eq_true (by omega)
   have e3 : wr ((i : Int) + 1) = ((i + 1 : Nat) : Int):=by rw [wr_of (by omega)]; rfl
   obtain ⟨x,hx,_⟩:=idxS_of x_3d3c2b2d2a2f2528297b7d i (show i < 11 from hlt)
   have e4 : wr ((at_ : Int) + 1) = ((at_ + 1 : Nat) : Int):=by rw [wr_of (by omega)]; rfl
   obtain ⟨w,hw,_⟩:=ssub_of s at_ (at_ + 1) (by omega) (by omega)
   cases hq : (x == x1)
   ·obtain ⟨t,k,k1,k2⟩:=ih (i + 1) (by omega) (by omega)
    exact ⟨t,k,Ev.step (Ev.of_eq (fun n=>by simp only [ref1_one_L2,d1,cond_true,hx,Option.bind_some,hq,cond_false,e3]) k1),k2⟩
   ·exact ⟨_,_,Ev.step (Ev.of_eq (g:=fun n=>some (⟨3,w,0,at_⟩,1)) (fun n=>by simp only [ref1_one_L2,d1,cond_true,hx,Option.bind_some,hq,e4,hw]) (Ev.ret _)),.inr ⟨by omega,by omega,by simp,by simp,by simp⟩⟩
  ·exact ih i (by omega) hi
theorem one_ev (s : ByteArray) (hs : s.size ≤ 6000) (at_ : Nat) (h : at_ < s.size) : ∃ t k,Ev (fun n=>ref1_one n s (at_ : Int)) (t,k) ∧ okOne s at_ t k:=by
 obtain ⟨x,hx,_⟩:=idxS_of s at_ h
 obtain ⟨bl,hbl⟩:=letter_ev x
 obtain ⟨bd,hbd⟩:=digit_ev x
 have e4 : wr ((at_ : Int) + 1) = ((at_ + 1 : Nat) : Int):=by rw [wr_of (by omega)]; rfl
 cases bl
 ·cases bd
  ·have l2 : ∀ w b,∃ t k,Ev (fun n=>ref1_one_L2 n s at_ x false false w b 0) (t,k) ∧ okOne s at_ t k:=fun w b=>one_L2 s hs at_ h x false false b w 11 0 (by omega) (by omega)
   cases hq : (x == 61)
   ·obtain ⟨t,k,k1,k2⟩:=l2 b0 false
    exact ⟨t,k,Ev.of_eq (fun n=>by simp only [ref1_one,hx,Option.bind_some,hbl,hbd,cond_false,jn,hq]) k1,k2⟩
   ·by_cases hlt : at_ + 1 < s.size
    ·have d1 : decide (((at_ + 1 : Nat) : Int) < (s.size : Int)) = true:=decide_eq_true (by omega)
     obtain ⟨y,hy,_⟩:=idxS_of s (at_ + 1) hlt
     cases hz : (y == 61)
     ·obtain ⟨t,k,k1,k2⟩:=l2 b0 false
      exact ⟨t,k,Ev.of_eq (fun n=>by simp only [ref1_one,hx,Option.bind_some,hbl,hbd,cond_false,cond_true,jn,hq,e4,d1,hy,hz]) k1,k2⟩
     ·exact ⟨_,_,Ev.of_eq (g:=fun n=>some (⟨3,x_3d3d,0,at_⟩,2)) (fun n=>by simp only [ref1_one,hx,Option.bind_some,hbl,hbd,cond_false,cond_true,jn,hq,e4,d1,hy,hz]) (Ev.ret _),.inr ⟨by omega,by omega,by simp,by simp,by simp⟩⟩
    ·have d1 : decide (((at_ + 1 : Nat) : Int) < (s.size : Int)) = false:=decide_eq_false (by omega)
     obtain ⟨t,k,k1,k2⟩:=l2 b0 false
     exact ⟨t,k,Ev.of_eq (fun n=>by simp only [ref1_one,hx,Option.bind_some,hbl,hbd,cond_false,cond_true,jn,hq,e4,d1]) k1,k2⟩
  ·obtain ⟨t,k,k1,k2⟩:=one_L1 s hs at_ x false true b0 s.size (at_ + 1) (by omega) (by omega) (by omega)
   exact ⟨t,k,Ev.of_eq (fun n=>by simp only [ref1_one,hx,Option.bind_some,hbl,hbd,cond_false,cond_true,e4]) k1,k2⟩
 ·obtain ⟨t,k,k1,k2⟩:=one_L0 s hs at_ x true b0 s.size (at_ + 1) (by omega) (by omega) (by omega)
  exact ⟨t,k,Ev.of_eq (fun n=>by simp only [ref1_one,hx,Option.bind_some,hbl,cond_true,e4]) k1,k2⟩
structure GoodT (T : List Token) : Prop where
 len : T.length ≤ 6001
 pos : 0 < T.length
 last : ∀ i t,T[i]? = some t → t.Kind ≠ 4 → i + 1 < T.length
 num : ∀ t ∈ T,0 ≤ t.N
theorem toks_L (s : ByteArray) (hs : s.size ≤ 6000) : ∀ (j i : Nat),s.size - i ≤ j → i ≤ s.size → ∀ l : List Token,l.length ≤ i → (∀ t ∈ l,0 ≤ t.N) →
  (∃ T k e,Ev (fun n=>ref1_Tokens_L0 n s l (i : Int)) (T,k,e) ∧ (e ≠ 0 ∨ GoodT T)):=by
 intro j
 have fin : ∀ (i : Nat),i = s.size → ∀ l : List Token,l.length ≤ i → (∀ t ∈ l,0 ≤ t.N) → (∃ T k e,Ev (fun n=>ref1_Tokens_L0 n s l (i : Int)) (T,k,e) ∧ (e ≠ 0 ∨ GoodT T)):=by
  intro i hi l hl hn
  have hlt : decide ((i : Int) < (s.size : Int)) = false:=decide_eq_false (by omega)
  have hr : room s_Token.i1.bytes l.length [(Token.mk 4 b0 0 (i : Int))].length = true:=room_of (by
   have : s_Token.i1.bytes = 40:=rfl
   rw [this]; simp only [List.length_singleton]; omega)
  refine ⟨_,_,_,Ev.step (Ev.of_eq (g:=fun n=>some (l ++ [(Token.mk 4 b0 0 (i : Int))],0,0)) (fun n=>by simp only [ref1_Tokens_L0,hlt,cond_false,hr,cond_true]) (Ev.ret _)),.inr ⟨by simp; omega,by simp,?_,?_⟩⟩
  ·intro q t hq hk
   rcases Nat.lt_or_ge q l.length with h | h
   ·simp; omega
   ·rw [List.getElem?_append_right h] at hq
    have : q - l.length = 0:=by
     rcases Nat.eq_zero_or_pos (q - l.length) with h | h
     ·exact h
     ·rw [List.getElem?_eq_none (by simp; omega)] at hq; cases hq
    rw [this] at hq
    simp at hq; subst hq; simp at hk
  ·intro t ht
   rcases List.mem_append.1 ht with h | h
   ·exact hn t h
   ·rw [List.mem_singleton.1 h]; simp
 induction j with
 | zero=>intro i hj hi l hl hn; exact fin i (by omega) l hl hn
 | succ j ih =>
  intro i hj hi l hl hn
  by_cases hlt : i < s.size
  ·have d1 : decide ((i : Int) < (s.size : Int)) = true:=decide_eq_true (by omega)
   have e3 : wr ((i : Int) + 1) = ((i + 1 : Nat) : Int):=by rw [wr_of (by omega)]; rfl
   obtain ⟨x,hx,_⟩:=idxS_of s i hlt
   have blank : ∃ T k e,Ev (fun n=>ref1_Tokens_L0 n s l (wr ((i : Int) + 1))) (T,k,e) ∧ (e ≠ 0 ∨ GoodT T):=by
    rw [e3]; exact ih (i + 1) (by omega) (by omega) l (by omega) hn
   by_cases hbl : x = 32 ∨ x = 9 ∨ x = 10
   ·obtain ⟨T,k,e,k1,k2⟩:=blank
    refine ⟨T,k,e,Ev.step (Ev.of_eq (fun n=>?_) k1),k2⟩
    rcases hbl with h | h | h <;> subst h <;> simp only [ref1_Tokens_L0,d1,cond_true,hx,Option.bind_some,jn] <;> rfl
   have b1 : (x == 32) = false:=by simp; omega
   have b2 : (x == 9) = false:=by simp; omega
   have b3 : (x == 10) = false:=by simp; omega
   cases hc : (x == 35)
   ·
    obtain ⟨t,k,k1,k2⟩:=one_ev s hs i hlt
    rcases k2 with rfl | ⟨q1,q2,q3,q4,q5⟩
    ·exact ⟨[],(i : Int),2,Ev.step (Ev.of_eq (g:=fun n=>(ref1_one n s (i : Int)).bind fun r10=>bif (r10.2 == 0) then some ([],(i : Int),2) else bif room s_Token.i1.bytes l.length [r10.1].length then ref1_Tokens_L0 n s (l ++ [r10.1]) (wr ((i : Int) + r10.2)) else none)
      (fun n=>by simp only [ref1_Tokens_L0,d1,cond_true,hx,Option.bind_some,jn,b1,b2,b3,cond_false,hc]) (Ev.bind k1 (Ev.ret _))),.inl (by omega)⟩
    ·have hk : (k == 0) = false:=by simp; omega
     have hr : room s_Token.i1.bytes l.length [t].length = true:=room_of (by
      have : s_Token.i1.bytes = 40:=rfl
      rw [this]; simp only [List.length_singleton]; omega)
     obtain ⟨T,k',e,m1,m2⟩:=ih (i + k.toNat) (by omega) (by omega) (l ++ [t]) (by simp; omega) (by
      intro y hy
      rcases List.mem_append.1 hy with h | h
      ·exact hn y h
      ·rw [List.mem_singleton.1 h]; exact q5)
     have e5 : wr ((i : Int) + k) = ((i + k.toNat : Nat) : Int):=by rw [wr_of (by omega)]; omega
     refine ⟨T,k',e,Ev.step (Ev.of_eq (g:=fun n=>(ref1_one n s (i : Int)).bind fun r10=>bif (r10.2 == 0) then some ([],(i : Int),2) else bif room s_Token.i1.bytes l.length [r10.1].length then ref1_Tokens_L0 n s (l ++ [r10.1]) (wr ((i : Int) + r10.2)) else none)
      (fun n=>by simp only [ref1_Tokens_L0,d1,cond_true,hx,Option.bind_some,jn,b1,b2,b3,cond_false,hc]) (Ev.bind k1 ?_)),m2⟩
     simp only [hk,cond_false,hr,cond_true,e5]
     exact m1
   ·
    have hx35 : x = 35:=by simpa using hc
    have note : ∀ (q p : Nat),s.size - p ≤ q → i ≤ p → p ≤ s.size → (p = i ∨ i < p) → ∃ T k e,Ev (fun n=>ref1_Tokens_L1 n s l (i : Int) x false (p : Int)) (T,k,e) ∧ (e ≠ 0 ∨ GoodT T):=by
     intro q
     induction q with
     | zero =>
      intro p hq h1 h2 h3
      have d2 : decide ((p : Int) < (s.size : Int)) = false:=decide_eq_false (by omega)
      obtain ⟨T,k,e,m1,m2⟩:=ih p (by omega) (by omega) l (by omega) hn
      exact ⟨T,k,e,Ev.step (Ev.of_eq (fun n=>by simp only [ref1_Tokens_L1,jn,d2,cond_false]) m1),m2⟩
     | succ q ihq =>
      intro p hq h1 h2 h3
      by_cases hp : p < s.size
      ·have d2 : decide ((p : Int) < (s.size : Int)) = true:=decide_eq_true (by omega)
       have e6 : wr ((p : Int) + 1) = ((p + 1 : Nat) : Int):=by rw [wr_of (by omega)]; rfl
       obtain ⟨y,hy,_⟩:=idxS_of s p hp
       cases hn10 : (y != 10)
       ·have hpi : i < p:=by
         rcases h3 with h | h
         ·subst h
          rw [hx] at hy; cases hy
          rw [hx35] at hn10; simp at hn10
         ·exact h
        obtain ⟨T,k,e,m1,m2⟩:=ih p (by omega) (by omega) l (by omega) hn
        exact ⟨T,k,e,Ev.step (Ev.of_eq (fun n=>by simp only [ref1_Tokens_L1,jn,d2,cond_true,hy,Option.bind_some,hn10,cond_false]) m1),m2⟩
       ·obtain ⟨T,k,e,m1,m2⟩:=ihq (p + 1) (by omega) (by omega) (by omega) (.inr (by omega))
        exact ⟨T,k,e,Ev.step (Ev.of_eq (fun n=>by simp only [ref1_Tokens_L1,jn,d2,cond_true,hy,Option.bind_some,hn10,e6]) m1),m2⟩
      ·exact ihq p (by omega) h1 h2 h3
    obtain ⟨T,k,e,m1,m2⟩:=note s.size i (by omega) (Nat.le_refl _) hi (.inl rfl)
    exact ⟨T,k,e,Ev.step (Ev.of_eq (fun n=>by simp only [ref1_Tokens_L0,d1,cond_true,hx,Option.bind_some,jn,b1,b2,b3,cond_false,hc]) m1),m2⟩
  ·exact fin i (by omega) l hl hn
theorem toks_ev (s : ByteArray) : ∃ T k e,Ev (fun n=>ref1_Tokens n s) (T,k,e) ∧ (e ≠ 0 ∨ (GoodT T ∧ s.size ≤ 6000)):=by
 by_cases h : s.size ≤ 6000
 ·obtain ⟨T,k,e,k1,k2⟩:=toks_L s h s.size 0 (by omega) (by omega) [] (by simp) (by simp)
  have d : decide ((s.size : Int) > 6000) = false:=decide_eq_false (by omega)
  exact ⟨T,k,e,Ev.of_eq (fun n=>by simp only [ref1_Tokens,d,cond_false]; rfl) k1,k2.imp id fun h'=>⟨h',h⟩⟩
 ·have d : decide ((s.size : Int) > 6000) = true:=decide_eq_true (by omega)
  exact ⟨_,_,_,Ev.of_eq (g:=fun n=>some ([],6000,2)) (fun n=>by simp only [ref1_Tokens,d,cond_true]) (Ev.ret _),.inl (by omega)⟩
def okA (z : Cx) : Prop:=∃ p q : Nat,p ≤ 6100 ∧ q ≤ 6100 ∧ z = ⟨FloatKind.f64.nearest p,FloatKind.f64.nearest q⟩
theorem spot_L0 (s : ByteArray) (a1 : Int) (m : Nat) (hm : m ≤ s.size) (hs : s.size ≤ 6000) : ∀ (j i : Nat) (p q : Nat),m - i ≤ j → i ≤ m → p ≤ i + 1 → q ≤ i + 1 → ∃ p' q' : Nat,p' ≤ 6001 ∧ q' ≤ 6001 ∧ Ev (fun n=>ref1_Spot_L0 n s a1 (m : Int) (p : Int) (q : Int) (i : Int)) ((p' : Int),(q' : Int)):=by
 intro j
 induction j with
 | zero =>
  intro i p q hj hi hp hq
  have d : decide ((i : Int) < (m : Int)) = false:=decide_eq_false (by omega)
  exact ⟨p,q,by omega,by omega,Ev.step (Ev.of_eq (g:=fun n=>some ((p : Int),(q : Int))) (fun n=>by simp only [ref1_Spot_L0,d,cond_false]) (Ev.ret _))⟩
 | succ j ih =>
  intro i p q hj hi hp hq
  by_cases h : i < m
  ·have d : decide ((i : Int) < (m : Int)) = true:=decide_eq_true (by omega)
   have e3 : wr ((i : Int) + 1) = ((i + 1 : Nat) : Int):=by rw [wr_of (by omega)]; rfl
   have e4 : wr ((p : Int) + 1) = ((p + 1 : Nat) : Int):=by rw [wr_of (by omega)]; rfl
   have e5 : wr ((q : Int) + 1) = ((q + 1 : Nat) : Int):=by rw [wr_of (by omega)]; rfl
   obtain ⟨x,hx,_⟩:=idxS_of s i (by omega)
   cases hc : (x == 10)
   ·obtain ⟨p',q',k0,k1,k2⟩:=ih (i + 1) p (q + 1) (by omega) (by omega) (by omega) (by omega)
    exact ⟨p',q',k0,k1,Ev.step (Ev.of_eq (fun n=>by simp only [ref1_Spot_L0,d,cond_true,jn,hx,Option.bind_some,hc,cond_false,e3,e5]) k2)⟩
   ·obtain ⟨p',q',k0,k1,k2⟩:=ih (i + 1) (p + 1) 1 (by omega) (by omega) (by omega) (by omega)
    exact ⟨p',q',k0,k1,Ev.step (Ev.of_eq (fun n=>by simp only [ref1_Spot_L0,d,cond_true,jn,hx,Option.bind_some,hc,e3,e4]; rfl) k2)⟩
  ·exact ih i p q (by omega) hi hp hq
theorem place_ev (s : ByteArray) (hs : s.size ≤ 6000) (a : Int) : ∃ z,Ev (fun n=>ref1_Place n s a) z ∧ okA z:=by
 obtain ⟨m,hm,e⟩ : ∃ m : Nat,m ≤ s.size ∧ gomax 0 (gomin (s.size : Int) a) = (m : Int):=by
  refine ⟨(gomax 0 (gomin (s.size : Int) a)).toNat,?_,?_⟩ <;> rw [gomax_eq,gomin_eq] <;> omega
 obtain ⟨p,q,k0,k1,k2⟩:=spot_L0 s a m hm hs m 0 1 1 (by omega) (by omega) (by omega) (by omega)
 refine ⟨_,Ev.of_eq (g:=fun n=>(ref1_Spot_L0 n s a (m : Int) 1 1 0).bind fun r1=>some (⟨FloatKind.f64.nearest r1.1,FloatKind.f64.nearest r1.2⟩ : Cx)) (fun n=>?_) (Ev.bind k2 (Ev.ret _)),p,q,by omega,by omega,rfl⟩
 simp only [ref1_Place,ref1_Spot,ref1_Within,e,Option.bind_some]
theorem keyword_L0 (w : ByteArray) : ∀ (j i : Nat),17 - i ≤ j → i ≤ 17 → ∃ b,Ev (fun n=>ref1_Keyword_L0 n w (i : Int)) b:=by
 intro j
 induction j with
 | zero =>
  intro i hj hi
  have d : decide ((i : Int) < 17) = false:=decide_eq_false (by omega)
  exact ⟨false,Ev.step (Ev.of_eq (g:=fun n=>some false) (fun n=>by simp only [ref1_Keyword_L0,d,cond_false]) (Ev.ret _))⟩
 | succ j ih =>
  intro i hj hi
  by_cases h : i < 17
  ·have d : decide ((i : Int) < 17) = true:=decide_eq_true (by omega)
   have e3 : wr ((i : Int) + 1) = ((i + 1 : Nat) : Int):=by rw [wr_of (by omega)]; rfl
   obtain ⟨x,hx⟩ : ∃ x,idx [k_var,k_wide,k_atomic,k_local,k_mutex,k_chan,k_go,k_lock,k_unlock,k_send,k_recv,k_print,k_if,k_else,k_repeat,k_goto,k_label] (i : Int) = some x :=
    ⟨_,idx_of (by omega) (by rw [Int.toNat_natCast]; exact List.getElem?_eq_getElem (by simpa using h))⟩
   cases hq : bytesEq w x
   ·obtain ⟨b,k1⟩:=ih (i + 1) (by omega) (by omega)
    exact ⟨b,Ev.step (Ev.of_eq (fun n=>by simp only [ref1_Keyword_L0,d,cond_true,hx,Option.bind_some,hq,cond_false,e3]) k1)⟩
   ·exact ⟨true,Ev.step (Ev.of_eq (g:=fun n=>some true) (fun n=>by simp only [ref1_Keyword_L0,d,cond_true,hx,Option.bind_some,hq]) (Ev.ret _))⟩
  ·exact ih i (by omega) hi
theorem keyword_ev (w : ByteArray) : ∃ b,Ev (fun n=>ref1_Keyword n w) b:=by
 obtain ⟨b,h⟩:=keyword_L0 w 17 0 (by omega) (by omega)
 exact ⟨b,Ev.of_eq (fun n=>by simp only [ref1_Keyword]; rfl) h⟩
theorem declKind_L0 (w : ByteArray) : ∀ (j i : Nat),6 - i ≤ j → i ≤ 6 → ∃ b,Ev (fun n=>ref1_declKind_L0 n w (i : Int)) b ∧ 0 ≤ b ∧ b ≤ 6:=by
 intro j
 induction j with
 | zero =>
  intro i hj hi
  have d : decide ((i : Int) < 6) = false:=decide_eq_false (by omega)
  exact ⟨0,Ev.step (Ev.of_eq (g:=fun n=>some 0) (fun n=>by simp only [ref1_declKind_L0,d,cond_false]) (Ev.ret _)),by omega,by omega⟩
 | succ j ih =>
  intro i hj hi
  by_cases h : i < 6
  ·have d : decide ((i : Int) < 6) = true:=decide_eq_true (by omega)
   have e3 : wr ((i : Int) + 1) = ((i + 1 : Nat) : Int):=by rw [wr_of (by omega)]; rfl
   obtain ⟨x,hx⟩ : ∃ x,idx [k_var,k_wide,k_atomic,k_local,k_mutex,k_chan] (i : Int) = some x :=
    ⟨_,idx_of (by omega) (by rw [Int.toNat_natCast]; exact List.getElem?_eq_getElem (by simpa using h))⟩
   cases hq : bytesEq w x
   ·obtain ⟨b,k1,k2⟩:=ih (i + 1) (by omega) (by omega)
    exact ⟨b,Ev.step (Ev.of_eq (fun n=>by simp only [ref1_declKind_L0,d,cond_true,hx,Option.bind_some,hq,cond_false,e3]) k1),k2⟩
   ·exact ⟨wr (1 + i),Ev.step (Ev.of_eq (g:=fun n=>some (wr (1 + i))) (fun n=>by simp only [ref1_declKind_L0,d,cond_true,hx,Option.bind_some,hq]) (Ev.ret _)),by rw [wr_of (by omega)]; omega,by rw [wr_of (by omega)]; omega⟩
  ·exact ih i (by omega) hi
theorem declKind_ev (w : ByteArray) : ∃ b,Ev (fun n=>ref1_declKind n w) b ∧ 0 ≤ b ∧ b ≤ 6:=by
 obtain ⟨b,h,h2⟩:=declKind_L0 w 6 0 (by omega) (by omega)
 exact ⟨b,Ev.of_eq (fun n=>by simp only [ref1_declKind]; rfl) h,h2⟩
end Go.Su.Ytkmcnajbhclimaa
