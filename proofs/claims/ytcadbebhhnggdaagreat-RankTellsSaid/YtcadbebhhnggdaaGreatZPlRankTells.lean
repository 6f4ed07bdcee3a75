/-
  RankTells: what its code computes is true.
-/
import Derived.Test.YtcadbebhhnggdaaGreatZPlShow
import Derived.Test.YtcadbebhhnggdaaGreatZPlWrp
import Derived.KernelRfl
import Derived.Test.YtcadbebhhnggdaaGreatZPlParse
import Derived.Test.YtcadbebhhnggdaaGreatZRowT
namespace Go.Su.YtcadbebhhnggdaaGreat
open Go.Mx Go.Proofs
set_option linter.unusedVariables false
set_option linter.unusedSimpArgs false
set_option maxHeartbeats 4000000
theorem f2iN : ((List.range 3001).all fun k=>f2i (FloatKind.f64.nearest (k : Nat)) == some (k : Int)) = true:=by kernel_rfl
theorem f2i_of (k : Nat) (h : k ≤ 3000) : f2i (FloatKind.f64.nearest (k : Nat)) = some (k : Int):=by
 have:=List.all_eq_true.1 f2iN k (List.mem_range.2 (by omega))
 simpa using this
theorem roomM (a b : Nat) (h : a + b ≤ 1000000) : room s_mark.i1.bytes a b = true:=room_of (by
 have : s_mark.i1.bytes = 200:=rfl
 rw [this]; omega)
theorem roomI (a b : Nat) (h : a + b ≤ 1000000) : room s_int.i1.bytes a b = true:=room_of (by
 have : s_int.i1.bytes = 8:=rfl
 rw [this]; omega)
theorem roomT (a b : Nat) (h : a + b ≤ 1000000) : room s_LStmt.i1.bytes a b = true:=room_of (by
 have : s_LStmt.i1.bytes = 24:=rfl
 rw [this]; omega)
theorem szS_eq (s : Stmt) : szS s = 1 + szE s.E + (szSl s.Body + szSl s.Else):=by cases s; rw [szS]
theorem wt_eq (s : Stmt) : wt s = 10 + 2 * (wtl s.Body + wtl s.Else):=by cases s; rw [wt]
def MkA (x : Stmt) : Prop:=∃ k : Nat,k ≤ 3000 ∧ x.At.re = FloatKind.f64.nearest (k : Int)
def MkL (l : List Stmt) : Prop:=∀ x ∈ flat l,MkA x
theorem MkL_cons {s : Stmt} {r : List Stmt} : MkL (s :: r) ↔ MkA s ∧ MkL s.Body ∧ MkL s.Else ∧ MkL r:=by
 unfold MkL
 simp only [flat,fl1_eq,List.mem_append,List.mem_cons]
 constructor
 ·intro h
  exact ⟨h s (by simp),fun x hx=>h x (by simp [hx]),fun x hx=>h x (by simp [hx]),fun x hx=>h x (by simp [hx])⟩
 ·rintro ⟨h1,h2,h3,h4⟩ x hx
  rcases hx with (rfl | hx | hx) | hx
  ·exact h1
  ·exact h2 x hx
  ·exact h3 x hx
  ·exact h4 x hx
theorem MkL_nil : MkL []:=fun x hx=>by simp [flat] at hx
theorem marked_all : (∀ s : Stmt,(∀ i : Nat,i + szSl s.Body ≤ 3000 → ∃ b' j,Ev (fun n=>hand_marked n s.Body (i : Int)) (b',((j : Nat) : Int)) ∧ MkL b' ∧ szSl b' = szSl s.Body ∧ j ≤ i + szSl s.Body) ∧
   ∀ i : Nat,i + szSl s.Else ≤ 3000 → ∃ b' j,Ev (fun n=>hand_marked n s.Else (i : Int)) (b',((j : Nat) : Int)) ∧ MkL b' ∧ szSl b' = szSl s.Else ∧ j ≤ i + szSl s.Else) ∧
  ∀ l : List Stmt,∀ (a1 : Int) (pre acc : List Stmt) (i : Nat),i + szSl l ≤ 3000 → (pre ++ l).length ≤ 1000000 → acc.length + l.length ≤ 1000000 →
   ∃ l' j,Ev (fun n=>hand_marked_L0 n (pre ++ l) a1 (i : Int) acc pre.length) (acc ++ l',((j : Nat) : Int)) ∧ MkL l' ∧ szSl l' = szSl l ∧ j ≤ i + szSl l:=by
 refine stmt_ind ?_ ?_ ?_
 ·intro k w v m e b l a hb hl
  constructor
  ·intro i hi
   have:=len_Sl b
   simp only at hi ⊢
   obtain ⟨l',j,h1,h2⟩:=hb i [] [] i hi (by simp; omega) (by simp; omega)
   exact ⟨l',j,Ev.step (Ev.of_eq (fun n=>by simp only [hand_marked]; rfl) h1),h2⟩
  ·intro i hi
   have:=len_Sl l
   simp only at hi ⊢
   obtain ⟨l',j,h1,h2⟩:=hl i [] [] i hi (by simp; omega) (by simp; omega)
   exact ⟨l',j,Ev.step (Ev.of_eq (fun n=>by simp only [hand_marked]; rfl) h1),h2⟩
 ·intro a1 pre acc i h1 h2 h3
  exact ⟨[],i,Ev.step (Ev.of_eq (g:=fun n=>some (acc,(i : Int))) (fun n=>by simp only [hand_marked_L0,List.append_nil,ix_ge,cond_false]) (by simpa using Ev.ret _)),MkL_nil,rfl,by omega⟩
 ·intro x r ihx ihr a1 pre acc i h1 h2 h3
  rw [szSl] at h1
  have hx:=szS_eq x
  have hp : pre.length + 1 ≤ 1000000:=by simp at h2; omega
  have ha : acc.length + 1 + r.length ≤ 1000000:=by simp at h3; omega
  obtain ⟨b',j1,e1,m1,z1,c1⟩:=ihx.1 (i + 1) (by omega)
  obtain ⟨l',j2,e2,m2,z2,c2⟩:=ihx.2 j1 (by omega)
  have hw : wr ((i : Int) + 1) = ((i + 1 : Nat) : Int):=by rw [wr_of (by omega)]; rfl
  obtain ⟨r',j,e3,m3,z3,c3⟩:=ihr a1 (pre ++ [x]) (acc ++ [Stmt.mk x.Kind x.Name x.Other x.N x.E b' l' (⟨FloatKind.f64.nearest (i : Int),0⟩ : Cx)]) j2 (by omega) (by rw [← ix_cons]; exact h2) (by simp; omega)
  refine ⟨Stmt.mk x.Kind x.Name x.Other x.N x.E b' l' (⟨FloatKind.f64.nearest (i : Int),0⟩ : Cx) :: r',j,?_,MkL_cons.2 ⟨⟨i,by omega,rfl⟩,m1,m2,m3⟩,by simp only [szSl,szS]; omega,by rw [szSl]; omega⟩
  refine Ev.step (Ev.of_eq (g:=fun n=>(hand_marked n x.Body ((i + 1 : Nat) : Int)).bind fun r6=>(hand_marked n x.Else r6.2).bind fun r8 =>
   bif room s_Stmt.i1.bytes acc.length [(Stmt.mk x.Kind x.Name x.Other x.N x.E r6.1 r8.1 (⟨FloatKind.f64.nearest (i : Int),0⟩ : Cx))].length then
    hand_marked_L0 n ((pre ++ [x]) ++ r) a1 r8.2 (acc ++ [(Stmt.mk x.Kind x.Name x.Other x.N x.E r6.1 r8.1 (⟨FloatKind.f64.nearest (i : Int),0⟩ : Cx))]) ((pre ++ [x]).length) else none) (fun n=>?_) (Ev.bind e1 (Ev.bind e2 (Ev.yes (room32 _ (by omega) _) (by simpa using e3)))))
  simp only [hand_marked_L0,ix_lt,cond_true,ix_get,Option.bind_some,hw]
  rw [ix_wr pre x (by omega),← ix_cons]
theorem marked_ev (l : List Stmt) (i : Nat) (h : i + szSl l ≤ 3000) : ∃ l' j,Ev (fun n=>hand_marked n l (i : Int)) (l',((j : Nat) : Int)) ∧ MkL l' ∧ szSl l' = szSl l ∧ j ≤ i + szSl l:=by
 have:=len_Sl l
 obtain ⟨l',j,h1,h2⟩:=marked_all.2 l i [] [] i h (by simp; omega) (by simp; omega)
 exact ⟨l',j,Ev.step (Ev.of_eq (fun n=>by simp only [hand_marked]; rfl) h1),h2⟩
theorem mark_L0 (D : List Decl) (ts : List (List Stmt)) : ∀ (l pre acc : List (List Stmt)) (i : Nat),ts = pre ++ l → i + szT l ≤ 3000 → ts.length ≤ 1000 → acc.length + l.length ≤ 1000 →
  ∃ l',Ev (fun n=>hand_mark_L0 n ⟨D,ts⟩ (i : Int) acc pre.length) ⟨D,acc ++ l'⟩ ∧ (∀ t ∈ l',MkL t) ∧ szT l' = szT l ∧ l'.length = l.length
 | [],pre,acc,i,e,h,h2,h3=>by
  rw [List.append_nil] at e; subst e
  exact ⟨[],Ev.step (Ev.of_eq (g:=fun n=>some ⟨D,acc⟩) (fun n=>by simp only [hand_mark_L0,ix_ge,cond_false]) (by simpa using Ev.ret _)),by simp,rfl,rfl⟩
 | t :: r,pre,acc,i,e,h,h2,h3=>by
  rw [szT] at h
  have hp : pre.length + 1 ≤ 1000:=by rw [e] at h2; simp at h2; omega
  have ha : acc.length + 1 + r.length ≤ 1000:=by simp at h3; omega
  obtain ⟨t',j,e1,m1,z1,c1⟩:=marked_ev t i (by omega)
  obtain ⟨r',e2,m2,z2,c2⟩:=mark_L0 D ts r (pre ++ [t]) (acc ++ [t']) j (by rw [e]; exact ix_cons _ _ _) (by omega) h2 (by simp; omega)
  refine ⟨t' :: r',?_,?_,by simp only [szT]; omega,by simp [c2]⟩
  ·subst e
   refine Ev.step (Ev.of_eq (g:=fun n=>(hand_marked n t (i : Int)).bind fun r5=>bif room s_LStmt.i1.bytes acc.length [r5.1].length then hand_mark_L0 n ⟨D,pre ++ t :: r⟩ r5.2 (acc ++ [r5.1]) ((pre ++ [t]).length) else none) (fun n=>?_) (Ev.bind e1 (Ev.yes (roomT _ _ (by simp; omega)) (by simpa using e2))))
   simp only [hand_mark_L0,ix_lt,cond_true,ix_get,Option.bind_some]
   rw [ix_wr pre t (by omega)]
  ·intro x hx
   rcases List.mem_cons.1 hx with rfl | hx
   ·exact m1
   ·exact m2 x hx
theorem mark_ev (D : List Decl) (ts : List (List Stmt)) (h : szT ts ≤ 3000) (h2 : ts.length ≤ 1000) : ∃ ts',Ev (fun n=>hand_mark n ⟨D,ts⟩) ⟨D,ts'⟩ ∧ (∀ t ∈ ts',MkL t) ∧ szT ts' = szT ts ∧ ts'.length = ts.length:=by
 obtain ⟨l',h1,h3⟩:=mark_L0 D ts ts [] [] 0 rfl (by omega) h2 (by simp; omega)
 exact ⟨l',Ev.of_eq (fun n=>by simp only [hand_mark]; rfl) (by simpa using h1),h3⟩
def PM (m : Mark) : Prop:=m.Block ≠ [] ∧ m.Block.length ≤ 20000 ∧ MkA m.S
theorem marks_all : (∀ s : Stmt,(∀ (a1 : List Int) (a2 a3 : Int),a1.length + szSl s.Body ≤ 10000 → MkL s.Body → ∃ ms j,Ev (fun n=>ref8_marks n s.Body a1 a2 a3) (ms,j) ∧ ms.length ≤ szSl s.Body ∧ ∀ m ∈ ms,PM m) ∧
   ∀ (a1 : List Int) (a2 a3 : Int),a1.length + szSl s.Else ≤ 10000 → MkL s.Else → ∃ ms j,Ev (fun n=>ref8_marks n s.Else a1 a2 a3) (ms,j) ∧ ms.length ≤ szSl s.Else ∧ ∀ m ∈ ms,PM m) ∧
  ∀ l : List Stmt,∀ (a1 : List Int) (a2 a3 i : Int) (here : List Int) (pre : List Stmt) (acc : List Mark),here ≠ [] → here.length + szSl l ≤ 10001 → (pre ++ l).length ≤ 100000 → acc.length + szSl l ≤ 100000 → MkL l →
   ∃ ms j,Ev (fun n=>ref8_marks_L0 n (pre ++ l) a1 a2 a3 i here acc pre.length) (acc ++ ms,j) ∧ ms.length ≤ szSl l ∧ ∀ m ∈ ms,PM m:=by
 have whole : ∀ (b : List Stmt),(∀ (a1 : List Int) (a2 a3 i : Int) (here : List Int) (pre : List Stmt) (acc : List Mark),here ≠ [] → here.length + szSl b ≤ 10001 → (pre ++ b).length ≤ 100000 → acc.length + szSl b ≤ 100000 → MkL b →
   ∃ ms j,Ev (fun n=>ref8_marks_L0 n (pre ++ b) a1 a2 a3 i here acc pre.length) (acc ++ ms,j) ∧ ms.length ≤ szSl b ∧ ∀ m ∈ ms,PM m) →
   ∀ (a1 : List Int) (a2 a3 : Int),a1.length + szSl b ≤ 10000 → MkL b → ∃ ms j,Ev (fun n=>ref8_marks n b a1 a2 a3) (ms,j) ∧ ms.length ≤ szSl b ∧ ∀ m ∈ ms,PM m:=by
  intro b hb a1 a2 a3 h hM
  have:=len_Sl b
  obtain ⟨ms,j,h1,h2⟩:=hb a1 a2 a3 (wr (a3 + 1)) (([] ++ a1) ++ [wr (a3 + 1)]) [] [] (by simp) (by simp; omega) (by simp; omega) (by simp; omega) hM
  refine ⟨ms,j,Ev.step (Ev.of_eq (fun n=>?_) h1),h2⟩
  simp only [ref8_marks,roomI ([] : List Int).length a1.length (by simp; omega),List.nil_append,roomI a1.length [wr (a3 + 1)].length (by simp; omega),cond_true]
  rfl
 refine stmt_ind ?_ ?_ ?_
 ·intro k w v m e b l a hb hl
  exact ⟨whole b hb,whole l hl⟩
 ·intro a1 a2 a3 i here pre acc h0 h1 h2 h3 hM
  exact ⟨[],i,Ev.step (Ev.of_eq (g:=fun n=>some (acc,i)) (fun n=>by simp only [ref8_marks_L0,List.append_nil,ix_ge,cond_false]) (by simpa using Ev.ret _)),by simp,by simp⟩
 ·intro x r ihx ihr a1 a2 a3 i here pre acc h0 h1 h2 h3 hM
  rw [szSl] at h1 h3
  have hx:=szS_eq x
  have hp : pre.length + 1 ≤ 100000:=by simp at h2; omega
  obtain ⟨mx,mb,me,mr⟩:=MkL_cons.1 hM
  obtain ⟨b',j1,e1,l1,p1⟩:=ihx.1 here a2 i (by omega) mb
  obtain ⟨l',j2,e2,l2,p2⟩:=ihx.2 here a2 j1 (by omega) me
  obtain ⟨r',j,e3,l3,p3⟩:=ihr a1 a2 a3 j2 here (pre ++ [x]) (((acc ++ [Mark.mk x here a2]) ++ b') ++ l') h0 (by omega) (by rw [← ix_cons]; exact h2) (by simp; omega) mr
  refine ⟨Mark.mk x here a2 :: (b' ++ (l' ++ r')),j,?_,by simp [szSl]; omega,?_⟩
  ·refine Ev.step (Ev.of_eq (g:=fun n=>(ref8_marks n x.Body here a2 i).bind fun r10=>bif room s_mark.i1.bytes (acc ++ [(Mark.mk x here a2)]).length r10.1.length then
     (ref8_marks n x.Else here a2 r10.2).bind fun r13=>bif room s_mark.i1.bytes ((acc ++ [(Mark.mk x here a2)]) ++ r10.1).length r13.1.length then
      ref8_marks_L0 n ((pre ++ [x]) ++ r) a1 a2 a3 r13.2 here (((acc ++ [(Mark.mk x here a2)]) ++ r10.1) ++ r13.1) ((pre ++ [x]).length) else none else none) (fun n=>?_) (Ev.bind e1 (Ev.yes (roomM _ _ (by simp; omega)) (Ev.bind e2 (Ev.yes (roomM _ _ (by simp; omega)) (by simpa using e3))))))
   simp only [ref8_marks_L0,ix_lt,cond_true,ix_get,Option.bind_some,roomM acc.length [Mark.mk x here a2].length (by simp; omega)]
   rw [ix_wr pre x (by omega),← ix_cons]
  ·intro m hm
   rcases List.mem_cons.1 hm with rfl | hm
   ·exact ⟨h0,by show here.length ≤ 20000; omega,mx⟩
   rcases List.mem_append.1 hm with hm | hm
   ·exact p1 m hm
   rcases List.mem_append.1 hm with hm | hm
   ·exact p2 m hm
   ·exact p3 m hm
theorem marks_ev (l : List Stmt) (a2 a3 : Int) (h : szSl l ≤ 10000) (hM : MkL l) : ∃ ms j,Ev (fun n=>ref8_marks n l [] a2 a3) (ms,j) ∧ ms.length ≤ szSl l ∧ ∀ m ∈ ms,PM m:=by
 have:=(marks_all.1 ⟨0,b0,b0,0,eN,l,[],c0⟩).1 [] a2 a3 (by simpa using h) hM
 exact this
theorem all_L0 (D : List Decl) (ts : List (List Stmt)) : ∀ (l pre : List (List Stmt)) (acc : List Mark) (i : Int),ts = pre ++ l → acc.length + szT l ≤ 10000 → ts.length ≤ 1000 → (∀ t ∈ l,MkL t) → (∀ m ∈ acc,PM m) →
  ∃ ms,Ev (fun n=>ref8_all_L0 n ⟨D,ts⟩ acc i pre.length) ms ∧ ms.length ≤ 10000 ∧ ∀ m ∈ ms,PM m
 | [],pre,acc,i,e,h,h2,hM,hA=>by
  rw [List.append_nil] at e; subst e
  exact ⟨acc,Ev.step (Ev.of_eq (g:=fun n=>some acc) (fun n=>by simp only [ref8_all_L0,ix_ge,cond_false]) (Ev.ret _)),by omega,hA⟩
 | t :: r,pre,acc,i,e,h,h2,hM,hA=>by
  rw [szT] at h
  have hp : pre.length + 1 ≤ 1000:=by rw [e] at h2; simp at h2; omega
  obtain ⟨mt,j,e1,l1,p1⟩:=marks_ev t (pre.length : Int) i (by omega) (hM t (by simp))
  obtain ⟨ms,e2,l2,p2⟩:=all_L0 D ts r (pre ++ [t]) (acc ++ mt) j (by rw [e]; exact ix_cons _ _ _) (by simp; omega) h2 (fun x hx=>hM x (by simp [hx])) (fun m hm=>by
   rcases List.mem_append.1 hm with hm | hm
   ·exact hA m hm
   ·exact p1 m hm)
  refine ⟨ms,?_,l2,p2⟩
  subst e
  refine Ev.step (Ev.of_eq (g:=fun n=>(ref8_marks n t [] (pre.length : Int) i).bind fun r5=>bif room s_mark.i1.bytes acc.length r5.1.length then ref8_all_L0 n ⟨D,pre ++ t :: r⟩ (acc ++ r5.1) r5.2 ((pre ++ [t]).length) else none) (fun n=>?_) (Ev.bind e1 (Ev.yes (roomM _ _ (by simp; omega)) e2)))
  simp only [ref8_all_L0,ix_lt,cond_true,ix_get,Option.bind_some]
  rw [ix_wr pre t (by omega)]
theorem all_ev (D : List Decl) (ts : List (List Stmt)) (h : szT ts ≤ 10000) (h2 : ts.length ≤ 1000) (hM : ∀ t ∈ ts,MkL t) : ∃ ms,Ev (fun n=>ref8_all n ⟨D,ts⟩) ms ∧ ms.length ≤ 10000 ∧ ∀ m ∈ ms,PM m:=by
 obtain ⟨ms,h1,h3⟩:=all_L0 D ts ts [] [] 0 rfl (by simpa using h) h2 hM (by simp)
 exact ⟨ms,Ev.of_eq (fun n=>by simp only [ref8_all]; rfl) h1,h3⟩
theorem inb_L0 (a0 : Int) (S : Stmt) (A : Int) : ∀ (l pre : List Int),(pre ++ l).length ≤ 1000000 → ∃ b,Ev (fun n=>ref8_within_L0 n a0 ⟨S,pre ++ l,A⟩ pre.length) b
 | [],pre,h=>⟨false,Ev.step (Ev.of_eq (g:=fun n=>some false) (fun n=>by simp only [ref8_within_L0,List.append_nil,ix_ge,cond_false]) (Ev.ret _))⟩
 | x :: r,pre,h=>by
  have hp : pre.length + 1 ≤ 1000000:=by simp at h; omega
  cases c : (x == a0)
  ·obtain ⟨b,hb⟩:=inb_L0 a0 S A r (pre ++ [x]) (by rw [← ix_cons]; exact h)
   refine ⟨b,Ev.step (Ev.of_eq (fun n=>?_) hb)⟩
   simp only [ref8_within_L0,ix_lt,ix_get,cond_true,Option.bind_some,c,cond_false]
   rw [ix_wr pre x (by omega),← ix_cons]
  ·exact ⟨true,Ev.step (Ev.of_eq (g:=fun n=>some true) (fun n=>by simp only [ref8_within_L0,ix_lt,ix_get,cond_true,Option.bind_some,c]) (Ev.ret _))⟩
theorem inb_ev (a0 : Int) (m : Mark) (h : PM m) : ∃ b,Ev (fun n=>ref8_within n a0 m) b:=by
 obtain ⟨S,B,A⟩:=m
 obtain ⟨b,hb⟩:=inb_L0 a0 S A B [] (by have:=h.2.1; simp only at this; simp; omega)
 exact ⟨b,Ev.of_eq (fun n=>by simp only [ref8_within]; rfl) hb⟩
theorem target_L0 (i : Nat) (mi : Mark) (hmi : PM mi) (b1 : Bool) : ∀ (l pre : List Mark),idx (pre ++ l) (i : Int) = some mi → (pre ++ l).length ≤ 100000 → (∀ m ∈ l,PM m) → ∃ r,Ev (fun n=>ref8_target_L0 n (pre ++ l) (i : Int) b1 pre.length) r
 | [],pre,hi,h,hP=>⟨-1,Ev.step (Ev.of_eq (g:=fun n=>some (-1)) (fun n=>by simp only [ref8_target_L0,List.append_nil,ix_ge,cond_false]) (Ev.ret _))⟩
 | x :: r,pre,hi,h,hP=>by
  have hp : pre.length + 1 ≤ 100000:=by simp at h; omega
  obtain ⟨q,hq⟩:=target_L0 i mi hmi b1 r (pre ++ [x]) (by rw [← ix_cons]; exact hi) (by rw [← ix_cons]; exact h) (fun m hm=>hP m (by simp [hm]))
  obtain ⟨B1,B2,B3⟩:=hP x (by simp)
  have hne : 0 < x.Block.length:=List.length_pos_iff.2 B1
  have hw : wr (ln x.Block - 1) = ((x.Block.length - 1 : Nat) : Int):=by
   show wr ((x.Block.length : Int) - 1) = _
   rw [wr_of (by omega)]; omega
  have hb : idx x.Block ((x.Block.length - 1 : Nat) : Int) = some (x.Block[x.Block.length - 1]'(by omega)):=idx_of (by omega) (by rw [Int.toNat_natCast]; exact List.getElem?_eq_getElem (by omega))
  obtain ⟨b,hW⟩:=inb_ev (x.Block[x.Block.length - 1]'(by omega)) mi hmi
  have base : ∀ n,ref8_target_L0 (n + 1) (pre ++ x :: r) (i : Int) b1 pre.length = jn (fun (b6 : Bool)=>bif b6 then some (pre.length : Int) else ref8_target_L0 n ((pre ++ [x]) ++ r) (i : Int) b1 ((pre ++ [x]).length)) fun J7 =>
    bif (x.S.Kind == 10) then bif bytesEq x.S.Name mi.S.Name then bif (x.At == mi.At) then (ref8_within n (x.Block[x.Block.length - 1]'(by omega)) mi).bind fun r12=>J7 r12 else J7 false else J7 false else J7 false:=by
   intro n
   simp only [ref8_target_L0,ix_lt,ix_get,cond_true,Option.bind_some,hi,hw,hb,ix_wr pre x (show pre.length + 1 ≤ 9223372036854775807 by omega)]
   rw [← ix_cons]
  cases c1 : (x.S.Kind == 10)
  ·exact ⟨q,Ev.step (Ev.of_eq (fun n=>by rw [base]; simp only [jn,c1,cond_false]) hq)⟩
  cases c2 : bytesEq x.S.Name mi.S.Name
  ·exact ⟨q,Ev.step (Ev.of_eq (fun n=>by rw [base]; simp only [jn,c1,c2,cond_false,cond_true]) hq)⟩
  cases c3 : (x.At == mi.At)
  ·exact ⟨q,Ev.step (Ev.of_eq (fun n=>by rw [base]; simp only [jn,c1,c2,c3,cond_false,cond_true]) hq)⟩
  cases b
  ·exact ⟨q,Ev.step (Ev.of_eq (fun n=>by rw [base]; simp only [jn,c1,c2,c3,cond_true]) (Ev.bind hW (g:=fun n r12=>bif r12 then some (pre.length : Int) else ref8_target_L0 n ((pre ++ [x]) ++ r) (i : Int) b1 ((pre ++ [x]).length)) (Ev.no rfl hq)))⟩
  ·exact ⟨_,Ev.step (Ev.of_eq (fun n=>by rw [base]; simp only [jn,c1,c2,c3,cond_true]) (Ev.bind hW (g:=fun n r12=>bif r12 then some (pre.length : Int) else ref8_target_L0 n ((pre ++ [x]) ++ r) (i : Int) b1 ((pre ++ [x]).length)) (Ev.yes rfl (Ev.ret _))))⟩
theorem target_ev (ms : List Mark) (i : Nat) (hi : i < ms.length) (hl : ms.length ≤ 10000) (hP : ∀ m ∈ ms,PM m) : ∃ r,Ev (fun n=>ref8_target n ms (i : Int)) r:=by
 have d1 : decide ((i : Int) < 0) = false:=decide_eq_false (by omega)
 have d2 : decide ((i : Int) ≥ ln ms) = false:=decide_eq_false (by show ¬ (i : Int) ≥ (ms.length : Int); omega)
 have i1 : idx ms (i : Int) = some ms[i]:=idx_of (by omega) (by rw [Int.toNat_natCast]; exact List.getElem?_eq_getElem hi)
 cases c : (ms[i].S.Kind != 9)
 ·have hmi:=hP _ (List.getElem_mem hi)
  have hw : wr ((i : Int) + 1) = ((ms.take (i + 1)).length : Int):=by rw [wr_of (by omega),List.length_take]; omega
  obtain ⟨r,hr⟩:=target_L0 i ms[i] hmi false (ms.drop (i + 1)) (ms.take (i + 1)) (by rw [List.take_append_drop]; exact i1) (by rw [List.take_append_drop]; omega) (fun m hm=>hP m (List.mem_of_mem_drop hm))
  refine ⟨r,Ev.of_eq (fun n=>?_) hr⟩
  simp only [ref8_target,jn,d1,d2,cond_false,i1,Option.bind_some,c,hw,List.take_append_drop]
 ·exact ⟨-1,Ev.of_eq (g:=fun n=>some (-1)) (fun n=>by simp only [ref8_target,jn,d1,d2,cond_false,i1,Option.bind_some,c,cond_true]) (Ev.ret _)⟩
def JR (r : Cx × Int) : Prop:=r.2 = 0 ∨ ∃ k : Nat,k ≤ 3000 ∧ r.1.re = FloatKind.f64.nearest (k : Int)
theorem Jumps_L1 (p : Prog) (r1 ms : List Mark) (i3 : Nat) (x4 : Mark) (b5 : Bool) (hx : PM x4) (hi : i3 ≤ ms.length) (hl : ms.length ≤ 10000)
  (next : ∃ r,Ev (fun n=>ref8_Jumps_L0 n p r1 ms (wr ((i3 : Int) + 1))) r ∧ JR r) :
  ∀ (m j : Nat),i3 - j ≤ m → j ≤ i3 → ∃ r,Ev (fun n=>ref8_Jumps_L1 n p r1 ms (i3 : Int) x4 b5 (j : Int)) r ∧ JR r
 | 0,j,h1,h2=>by
  obtain ⟨r,hr,hj⟩:=next
  have d1 : decide ((j : Int) < (i3 : Int)) = false:=decide_eq_false (by omega)
  exact ⟨r,Ev.step (Ev.of_eq (fun n=>by simp only [ref8_Jumps_L1,jn,d1,cond_false]) hr),hj⟩
 | m + 1,j,h1,h2=>by
  by_cases hj : j < i3
  ·have d1 : decide ((j : Int) < (i3 : Int)) = true:=decide_eq_true (by omega)
   have i1 : idx ms (j : Int) = some (ms[j]'(by omega)):=idx_of (by omega) (by rw [Int.toNat_natCast]; exact List.getElem?_eq_getElem (by omega))
   have e3 : wr ((j : Int) + 1) = ((j + 1 : Nat) : Int):=by rw [wr_of (by omega)]; rfl
   obtain ⟨q,hq,jq⟩:=Jumps_L1 p r1 ms i3 x4 b5 hx hi hl next m (j + 1) (by omega) (by omega)
   have bad : JR (x4.S.At,4):=.inr hx.2.2
   cases c0 : (x4.S.Kind == 10)
   ·obtain ⟨r,hr,hj⟩:=next
    exact ⟨r,Ev.step (Ev.of_eq (fun n=>by simp only [ref8_Jumps_L1,jn,d1,cond_true,c0,cond_false]) hr),hj⟩
   cases c1 : ((ms[j]'(by omega)).S.Kind == 10)
   ·exact ⟨q,Ev.step (Ev.of_eq (fun n=>by simp only [ref8_Jumps_L1,jn,d1,cond_true,c0,i1,Option.bind_some,c1,cond_false,e3]) hq),jq⟩
   cases c2 : bytesEq (ms[j]'(by omega)).S.Name x4.S.Name
   ·exact ⟨q,Ev.step (Ev.of_eq (fun n=>by simp only [ref8_Jumps_L1,jn,d1,cond_true,c0,i1,Option.bind_some,c1,c2,cond_false,e3]) hq),jq⟩
   cases c3 : ((ms[j]'(by omega)).At == x4.At)
   ·exact ⟨q,Ev.step (Ev.of_eq (fun n=>by simp only [ref8_Jumps_L1,jn,d1,cond_true,c0,i1,Option.bind_some,c1,c2,c3,cond_false,e3]) hq),jq⟩
   ·exact ⟨(x4.S.At,4),Ev.step (Ev.of_eq (g:=fun n=>some (x4.S.At,4)) (fun n=>by simp only [ref8_Jumps_L1,jn,d1,cond_true,c0,i1,Option.bind_some,c1,c2,c3]) (Ev.ret _)),bad⟩
  ·exact Jumps_L1 p r1 ms i3 x4 b5 hx hi hl next m j (by omega) (by omega)
theorem Jumps_L0 (p : Prog) (r1 ms : List Mark) (hl : ms.length ≤ 10000) (hP : ∀ m ∈ ms,PM m) : ∀ (m i : Nat),ms.length - i ≤ m → i ≤ ms.length → ∃ r,Ev (fun n=>ref8_Jumps_L0 n p r1 ms (i : Int)) r ∧ JR r
 | 0,i,h1,h2=>by
  have d1 : decide ((i : Int) < ln ms) = false:=decide_eq_false (by show ¬ (i : Int) < (ms.length : Int); omega)
  exact ⟨(c0,0),Ev.step (Ev.of_eq (g:=fun n=>some (c0,0)) (fun n=>by simp only [ref8_Jumps_L0,d1,cond_false]) (Ev.ret _)),.inl rfl⟩
 | m + 1,i,h1,h2=>by
  by_cases hi : i < ms.length
  ·have d1 : decide ((i : Int) < ln ms) = true:=decide_eq_true (by show (i : Int) < (ms.length : Int); omega)
   have i1 : idx ms (i : Int) = some ms[i]:=idx_of (by omega) (by rw [Int.toNat_natCast]; exact List.getElem?_eq_getElem hi)
   have e3 : wr ((i : Int) + 1) = ((i + 1 : Nat) : Int):=by rw [wr_of (by omega)]; rfl
   have hx:=hP _ (List.getElem_mem hi)
   have next:=Jumps_L0 p r1 ms hl hP m (i + 1) (by omega) (by omega)
   rw [← e3] at next
   have inner : ∀ b5,∃ r,Ev (fun n=>ref8_Jumps_L1 n p r1 ms (i : Int) ms[i] b5 0) r ∧ JR r:=fun b5=>Jumps_L1 p r1 ms i ms[i] b5 hx h2 hl next i 0 (by omega) (by omega)
   cases c1 : (ms[i].S.Kind == 9)
   ·obtain ⟨r,hr,hj⟩:=inner false
    exact ⟨r,Ev.step (Ev.of_eq (fun n=>by simp only [ref8_Jumps_L0,d1,cond_true,i1,Option.bind_some,jn,c1,cond_false]) hr),hj⟩
   ·obtain ⟨t,ht⟩:=target_ev ms i hi hl hP
    cases c2 : decide (t < 0)
    ·obtain ⟨r,hr,hj⟩:=inner false
     refine ⟨r,Ev.step (Ev.of_eq (g:=fun n=>(ref8_target n ms (i : Int)).bind fun r7=>bif decide (r7 < 0) then some (ms[i].S.At,4) else ref8_Jumps_L1 n p r1 ms (i : Int) ms[i] (decide (r7 < 0)) 0) (fun n=>?_) (Ev.bind ht (Ev.no c2 (by rw [c2]; exact hr)))),hj⟩
     simp only [ref8_Jumps_L0,d1,cond_true,i1,Option.bind_some,jn,c1]
    ·refine ⟨(ms[i].S.At,4),Ev.step (Ev.of_eq (g:=fun n=>(ref8_target n ms (i : Int)).bind fun r7=>bif decide (r7 < 0) then some (ms[i].S.At,4) else ref8_Jumps_L1 n p r1 ms (i : Int) ms[i] (decide (r7 < 0)) 0) (fun n=>?_) (Ev.bind ht (Ev.yes c2 (Ev.ret _)))),.inr hx.2.2⟩
     simp only [ref8_Jumps_L0,d1,cond_true,i1,Option.bind_some,jn,c1]
  ·exact Jumps_L0 p r1 ms hl hP m i (by omega) h2
theorem Jumps_ev (D : List Decl) (ts : List (List Stmt)) (h : szT ts ≤ 10000) (h2 : ts.length ≤ 1000) (hM : ∀ t ∈ ts,MkL t) : ∃ r,Ev (fun n=>ref8_Jumps n ⟨D,ts⟩) r ∧ JR r:=by
 obtain ⟨ms,e1,l1,p1⟩:=all_ev D ts h h2 hM
 obtain ⟨r,e2,j2⟩:=Jumps_L0 ⟨D,ts⟩ ms ms l1 p1 ms.length 0 (by omega) (by omega)
 exact ⟨r,Ev.of_eq (g:=fun n=>(ref8_all n ⟨D,ts⟩).bind fun r1=>ref8_Jumps_L0 n ⟨D,ts⟩ r1 r1 0) (fun n=>by simp only [ref8_Jumps]) (Ev.bind e1 e2),j2⟩
theorem okH_re {k m : Int} {w v : ByteArray} {e : Expr} {b l b' l' : List Stmt} {a : Cx} (h : okH ⟨k,w,v,m,e,b,l,a⟩) (hb : b = [] → b' = []) (hl : l = [] → l' = []) : okH ⟨k,w,v,m,e,b',l',a⟩:=by
 cases h
 case assign=>obtain rfl:=hb rfl; obtain rfl:=hl rfl; constructor <;> assumption
 case lock=>obtain rfl:=hb rfl; obtain rfl:=hl rfl; constructor
 case unlock=>obtain rfl:=hb rfl; obtain rfl:=hl rfl; constructor
 case send=>obtain rfl:=hb rfl; obtain rfl:=hl rfl; constructor <;> assumption
 case recv=>obtain rfl:=hb rfl; obtain rfl:=hl rfl; constructor <;> assumption
 case print=>obtain rfl:=hb rfl; obtain rfl:=hl rfl; constructor <;> assumption
 case cond=>constructor <;> assumption
 case rep=>obtain rfl:=hl rfl; constructor <;> assumption
 case goto=>obtain rfl:=hb rfl; obtain rfl:=hl rfl; constructor <;> assumption
 case label=>obtain rfl:=hb rfl; obtain rfl:=hl rfl; constructor <;> assumption
theorem okS_re {d : Nat} (s : Stmt) {b' l' : List Stmt} (h : okS d s) (ob : okSl (d - 1) b') (ol : okSl (d - 1) l') (hb : s.Body = [] → b' = []) (hl : s.Else = [] → l' = []) : okS d ⟨s.Kind,s.Name,s.Other,s.N,s.E,b',l',s.At⟩:=by
 cases s with
 | mk k w v m e b l a =>
  rw [okS] at h ⊢
  obtain ⟨h1,h2,h3,h4,h5⟩:=h
  exact ⟨okH_re h1 hb hl,fun h=>⟨hb (h2 h).1,hl (h2 h).2⟩,h3,ob,ol⟩
theorem cut_all (site : Int) : (∀ s : Stmt,∀ d,okS d s → wt s ≤ 100000 → (∀ i : Int,∃ b' j,Ev (fun n=>hand_cut n s.Body site i) (b',j) ∧ okSl (d - 1) b' ∧ wtl b' ≤ wtl s.Body ∧ (s.Body = [] → b' = [])) ∧
   ∀ i : Int,∃ b' j,Ev (fun n=>hand_cut n s.Else site i) (b',j) ∧ okSl (d - 1) b' ∧ wtl b' ≤ wtl s.Else ∧ (s.Else = [] → b' = [])) ∧
  ∀ l : List Stmt,∀ d,okSl d l → wtl l ≤ 100000 → ∀ (a2 : Int) (pre acc : List Stmt) (i : Int),(pre ++ l).length ≤ 1000000 → acc.length + l.length ≤ 1000000 →
   ∃ l' j,Ev (fun n=>hand_cut_L0 n (pre ++ l) site a2 i acc pre.length) (acc ++ l',j) ∧ okSl d l' ∧ wtl l' ≤ wtl l ∧ (l = [] → l' = []):=by
 refine stmt_ind ?_ ?_ ?_
 ·intro k w v m e b l a hb hl d h hw
  rw [okS] at h
  rw [wt] at hw
  obtain ⟨_,_,_,h4,h5⟩:=h
  have lb:=len_Sl b
  have ll:=len_Sl l
  have wb:=szS_wt.2 b _ h4
  have wl:=szS_wt.2 l _ h5
  constructor
  ·intro i
   obtain ⟨l',j,h1,h2⟩:=hb (d - 1) h4 (by omega) i [] [] i (by simp; omega) (by simp; omega)
   exact ⟨l',j,Ev.step (Ev.of_eq (fun n=>by simp only [hand_cut]; rfl) h1),h2⟩
  ·intro i
   obtain ⟨l',j,h1,h2⟩:=hl (d - 1) h5 (by omega) i [] [] i (by simp; omega) (by simp; omega)
   exact ⟨l',j,Ev.step (Ev.of_eq (fun n=>by simp only [hand_cut]; rfl) h1),h2⟩
 ·intro d _ _ a2 pre acc i h1 h2
  exact ⟨[],i,Ev.step (Ev.of_eq (g:=fun n=>some (acc,i)) (fun n=>by simp only [hand_cut_L0,List.append_nil,ix_ge,cond_false]) (by simpa using Ev.ret _)),by rw [okSl]; trivial,by omega,fun _=>rfl⟩
 ·intro x r ihx ihr d ho hw a2 pre acc i h1 h2
  rw [okSl] at ho
  rw [wtl] at hw
  have hp : pre.length + 1 ≤ 1000000:=by simp at h1; omega
  have ha : acc.length + 1 + r.length ≤ 1000000:=by simp at h2; omega
  obtain ⟨b',j1,e1,o1,w1,n1⟩:=(ihx d ho.1 (by omega)).1 (wr (i + 1))
  obtain ⟨l',j2,e2,o2,w2,n2⟩:=(ihx d ho.1 (by omega)).2 j1
  have ox:=okS_re x ho.1 o1 o2 n1 n2
  have wx:=wt_eq x
  cases c : (i != site)
  ·obtain ⟨r',j,e3,o3,w3,n3⟩:=ihr d ho.2 (by omega) a2 (pre ++ [x]) acc j2 (by rw [← ix_cons]; exact h1) (by omega)
   refine ⟨r',j,?_,o3,by rw [wtl]; omega,fun h=>by simp at h⟩
   refine Ev.step (Ev.of_eq (g:=fun n=>(hand_cut n x.Body site (wr (i + 1))).bind fun r9=>(hand_cut n x.Else site r9.2).bind fun r11=>hand_cut_L0 n ((pre ++ [x]) ++ r) site a2 r11.2 acc ((pre ++ [x]).length)) (fun n=>?_) (Ev.bind e1 (Ev.bind e2 e3)))
   simp only [hand_cut_L0,jn,ix_lt,cond_true,ix_get,Option.bind_some,c,cond_false]
   rw [ix_wr pre x (by omega),← ix_cons]
  ·obtain ⟨r',j,e3,o3,w3,n3⟩:=ihr d ho.2 (by omega) a2 (pre ++ [x]) (acc ++ [Stmt.mk x.Kind x.Name x.Other x.N x.E b' l' x.At]) j2 (by rw [← ix_cons]; exact h1) (by simp; omega)
   refine ⟨Stmt.mk x.Kind x.Name x.Other x.N x.E b' l' x.At :: r',j,?_,by rw [okSl]; exact ⟨ox,o3⟩,by rw [wtl,wtl,wt]; omega,fun h=>by simp at h⟩
   refine Ev.step (Ev.of_eq (g:=fun n=>(hand_cut n x.Body site (wr (i + 1))).bind fun r9=>(hand_cut n x.Else site r9.2).bind fun r11 =>
    bif room s_Stmt.i1.bytes acc.length [(Stmt.mk x.Kind x.Name x.Other x.N x.E r9.1 r11.1 x.At)].length then hand_cut_L0 n ((pre ++ [x]) ++ r) site a2 r11.2 (acc ++ [(Stmt.mk x.Kind x.Name x.Other x.N x.E r9.1 r11.1 x.At)]) ((pre ++ [x]).length) else none) (fun n=>?_) (Ev.bind e1 (Ev.bind e2 (Ev.yes (room32 _ (by omega) _) (by simpa using e3)))))
   simp only [hand_cut_L0,jn,ix_lt,cond_true,ix_get,Option.bind_some,c]
   rw [ix_wr pre x (by omega),← ix_cons]
theorem cut_ev (site : Int) (l : List Stmt) (d : Nat) (i : Int) (ho : okSl d l) (hw : wtl l ≤ 10000) : ∃ l' j,Ev (fun n=>hand_cut n l site i) (l',j) ∧ okSl d l' ∧ wtl l' ≤ wtl l:=by
 have ll:=len_Sl l
 have wl:=szS_wt.2 l _ ho
 obtain ⟨l',j,h1,h2,h3,_⟩:=(cut_all site).2 l d ho (by omega) i [] [] i (by simp; omega) (by simp; omega)
 exact ⟨l',j,Ev.step (Ev.of_eq (fun n=>by simp only [hand_cut]; rfl) h1),h2,h3⟩
theorem without_L0 (D : List Decl) (ts : List (List Stmt)) (site : Int) : ∀ (l pre acc : List (List Stmt)) (i : Int),ts = pre ++ l → ts.length ≤ 1000 → acc.length + l.length ≤ 1000 → okTs l → okTs acc →
  ∃ l',Ev (fun n=>hand_without_L0 n ⟨D,ts⟩ site i acc pre.length) ⟨D,l'⟩ ∧ okTs l' ∧ l'.length = acc.length + l.length
 | [],pre,acc,i,e,h2,h3,o1,o2=>by
  rw [List.append_nil] at e; subst e
  exact ⟨acc,Ev.step (Ev.of_eq (g:=fun n=>some ⟨D,acc⟩) (fun n=>by simp only [hand_without_L0,ix_ge,cond_false]) (Ev.ret _)),o2,by simp⟩
 | t :: r,pre,acc,i,e,h2,h3,o1,o2=>by
  have hp : pre.length + 1 ≤ 1000:=by rw [e] at h2; simp at h2; omega
  have ha : acc.length + 1 + r.length ≤ 1000:=by simp at h3; omega
  obtain ⟨ot,wt_⟩:=o1 t (by simp)
  obtain ⟨t',j,e1,p1,w1⟩:=cut_ev site t 2 i ot (by omega)
  obtain ⟨l',e2,p2,w2⟩:=without_L0 D ts site r (pre ++ [t]) (acc ++ [t']) j (by rw [e]; exact ix_cons _ _ _) h2 (by simp; omega) (fun x hx=>o1 x (by simp [hx])) (fun x hx=>by
   rcases List.mem_append.1 hx with hx | hx
   ·exact o2 x hx
   ·rw [List.mem_singleton] at hx; subst hx; exact ⟨p1,by omega⟩)
  refine ⟨l',?_,p2,by rw [w2]; simp; omega⟩
  subst e
  refine Ev.step (Ev.of_eq (g:=fun n=>(hand_cut n t site i).bind fun r5=>bif room s_LStmt.i1.bytes acc.length [r5.1].length then hand_without_L0 n ⟨D,pre ++ t :: r⟩ site r5.2 (acc ++ [r5.1]) ((pre ++ [t]).length) else none) (fun n=>?_) (Ev.bind e1 (Ev.yes (roomT _ _ (by simp; omega)) e2)))
  simp only [hand_without_L0,ix_lt,cond_true,ix_get,Option.bind_some]
  rw [ix_wr pre t (by omega)]
theorem szT_ok : ∀ ts : List (List Stmt),okTs ts → szT ts ≤ 641 * ts.length
 | [],_=>by simp [szT]
 | t :: r,h=>by
  have h1:=h t (by simp)
  have h2:=szT_ok r (fun x hx=>h x (by simp [hx]))
  have h3:=szS_wt.2 t 2 h1.1
  rw [szT,List.length_cons]; omega
theorem fixed_L0 (a0 : Prog) (D : List Decl) : ∀ (m i : Nat),40 - i ≤ m → i ≤ 40 → ∀ ts,okTs ts → ts.length ≤ 3 → ∃ ts',Ev (fun n=>hand_fixed_L0 n a0 ⟨D,ts⟩ (i : Int)) ⟨D,ts'⟩ ∧ okTs ts' ∧ ts'.length ≤ 3
 | 0,i,h1,h2,ts,ho,hl=>by
  have d1 : decide ((i : Int) < 40) = false:=decide_eq_false (by omega)
  exact ⟨[[]],Ev.step (Ev.of_eq (g:=fun n=>some ⟨D,[[]]⟩) (fun n=>by simp only [hand_fixed_L0,d1,cond_false]) (Ev.ret _)),fun t ht=>by
   rw [List.mem_singleton] at ht; subst ht
   exact ⟨by rw [okSl]; trivial,by rw [wtl]; omega⟩,by simp⟩
 | m + 1,i,h1,h2,ts,ho,hl=>by
  by_cases hi : i < 40
  ·have d1 : decide ((i : Int) < 40) = true:=decide_eq_true (by omega)
   have e3 : wr ((i : Int) + 1) = ((i + 1 : Nat) : Int):=by rw [wr_of (by omega)]; rfl
   have hz:=szT_ok ts ho
   obtain ⟨ts1,k1,k2,k3,k4⟩:=mark_ev D ts (by omega) (by omega)
   obtain ⟨r,k5,k6⟩:=Jumps_ev D ts1 (by omega) (by omega) k2
   cases c : (r.2 == 0)
   ·obtain ⟨k,hk,hr⟩ : ∃ k : Nat,k ≤ 3000 ∧ r.1.re = FloatKind.f64.nearest (k : Int):=by
     rcases k6 with h | h
     ·rw [h] at c; cases c
     ·exact h
    have hf : f2i r.1.re = some (k : Int):=by rw [hr]; exact f2i_of k hk
    obtain ⟨ts2,k7,k8,k9⟩:=without_L0 D ts (k : Int) ts [] [] 0 rfl (by omega) (by simp; omega) ho (fun t ht=>by simp at ht)
    have hwo : Ev (fun n=>hand_without n ⟨D,ts⟩ (k : Int)) ⟨D,ts2⟩:=Ev.of_eq (fun n=>by simp only [hand_without]; rfl) k7
    obtain ⟨ts3,q1,q2⟩:=fixed_L0 a0 D m (i + 1) (by omega) (by omega) ts2 k8 (by rw [k9]; simpa using hl)
    refine ⟨ts3,Ev.step (Ev.of_eq (g:=fun n=>(hand_mark n ⟨D,ts⟩).bind fun r3=>(ref8_Jumps n r3).bind fun r4=>bif (r4.2 == 0) then some ⟨D,ts⟩ else (f2i r4.1.re).bind fun x5=>(hand_without n ⟨D,ts⟩ x5).bind fun r6=>hand_fixed_L0 n a0 r6 ((i + 1 : Nat) : Int)) (fun n=>?_) (Ev.bind k1 (Ev.bind k5 (Ev.no c (Ev.opt hf (Ev.bind hwo q1)))))),q2⟩
    simp only [hand_fixed_L0,d1,cond_true,e3]
   ·refine ⟨ts,Ev.step (Ev.of_eq (g:=fun n=>(hand_mark n ⟨D,ts⟩).bind fun r3=>(ref8_Jumps n r3).bind fun r4=>bif (r4.2 == 0) then some ⟨D,ts⟩ else (f2i r4.1.re).bind fun x5=>(hand_without n ⟨D,ts⟩ x5).bind fun r6=>hand_fixed_L0 n a0 r6 ((i + 1 : Nat) : Int)) (fun n=>?_) (Ev.bind k1 (Ev.bind k5 (Ev.yes c (Ev.ret _))))),ho,hl⟩
    simp only [hand_fixed_L0,d1,cond_true,e3]
  ·exact fixed_L0 a0 D m i (by omega) h2 ts ho hl
theorem Good_ev (how : Int) (a b c : List Act) (most : Int) (hm : most ≤ 100) : ∃ w,Ev (fun n=>hand_Good n how a b c most) w:=by
 obtain ⟨D,ts,hp,oD,ots,hlen⟩:=prog_ev how a b c most hm
 obtain ⟨ts',hf,ots',hlen'⟩:=fixed_L0 ⟨D,ts⟩ D 40 0 (by omega) (by omega) ts ots (by omega)
 obtain ⟨oSD,oSn⟩:=okSD_of oD
 obtain ⟨w,hw⟩:=Show_ev D ts' oSD oSn (fun t ht=>⟨2,(ots' t ht).1,by have:=(ots' t ht).2; omega⟩) (by omega)
 have hfx : Ev (fun n=>hand_fixed n ⟨D,ts⟩) ⟨D,ts'⟩:=Ev.of_eq (fun n=>by simp only [hand_fixed]; rfl) hf
 exact ⟨w,Ev.of_eq (g:=fun n=>(hand_Prog n how a b c most).bind fun r1=>(hand_fixed n r1).bind fun r2=>(ref1_Show n r2).bind fun r3=>some r3) (fun n=>by simp only [hand_Good]) (Ev.bind hp (Ev.bind hfx (Ev.bind hw (Ev.ret _))))⟩
end Go.Su.YtcadbebhhnggdaaGreat
namespace Go.Su.YtcadbebhhnggdaaGreat
open Go.Mx Go.Proofs
set_option linter.unusedVariables false
set_option linter.unusedSimpArgs false
set_option maxHeartbeats 4000000
theorem law25_RankTells_true (a0 : Int) (a1 a2 a3 : List Act) (a4 : Int) (h0 : okInt .i64 a0) (h1 : okActs a1) (h2 : okActs a2) (h3 : okActs a3) (h4 : okInt .i64 a4) : ∃ n,law25_RankTells n a0 a1 a2 a3 a4 = some true:=by
 obtain ⟨w,hw⟩:=Good_ev a0 a1 a2 a3 5 (by omega)
 obtain ⟨⟨D,ts⟩,i,e,hpar,ok1⟩:=parse_ev w
 obtain ⟨okD,okn,okz,okw⟩:=ok1
 simp only at okD okn okz okw
 have hread : Ev (fun n=>law25_read n w) ⟨D,ts⟩:=Ev.of_eq (g:=fun n=>(ref1_Parse n w).bind fun r1=>some r1.1) (fun n=>by simp only [law25_read]) (Ev.bind hpar (Ev.ret _))
 obtain ⟨gs,g1,g2,g3⟩:=groups_eq a4
 have hn : ∀ g ∈ gs,g.length ≤ 4000000:=fun g hg=>by have:=g3 g hg; omega
 have hI:=Inside_ev D ts gs (by omega) (by omega) hn
 have hJ:=rInside_ev D ts gs (by omega) (by omega) hn
 have hO:=Order_ev D ts gs (by omega) (by omega) hn
 have hP:=rOrder_ev D ts gs (by omega) (by omega) hn
 have hl:=pas_len (enL (flats ts) 0) (gs.map (wf ts)) (gs.map (wf ts)) 0
 rw [List.length_map] at hl
 have hl2 : (inside ts gs).length ≤ 1000000:=by
  have : gs.length * gs.length ≤ 3 * 3:=Nat.mul_le_mul g2 g2
  unfold inside; omega
 obtain ⟨I,hIe⟩ : ∃ I,I = inside ts gs:=⟨_,rfl⟩
 obtain ⟨⟨R,e⟩,hR⟩ : ∃ R,R = ranks (inside ts gs) gs.length:=⟨_,rfl⟩
 have rlen : ∀ (I : List Arr2_i64) (n m i : Nat) (R : List Int),(rks I n m i R).1.length ≤ R.length:=by
  intro I n m
  induction m with
  | zero=>intro i R; exact Nat.le_refl _
  | succ m ih =>
   intro i R
   rw [rks]
   cases decide (nxg I R n 0 (-1) < 0)
   ·have:=ih (i + 1) (R.set (nxg I R n 0 (-1)).toNat (i : Int))
    simpa using this
   ·simp
 have hRl : R.length ≤ 100:=by
  have:=rlen (inside ts gs) gs.length gs.length 0 (List.replicate gs.length (-1))
  unfold ranks at hR
  rw [← hR] at this
  simp at this; omega
 rw [← hIe] at hI hJ hl2
 rw [← hR] at hO hP
 have last : ∀ (b8 : Bool) (i11 : Int) (l pre : List Int),R = pre ++ l → Ev (fun n=>law25_RankTells_L1 n a0 a1 a2 a3 a4 w ⟨D,ts⟩ gs I I (R,e) (R,e) b8 i11 pre.length) true:=by
  intro b8 i11 l
  induction l with
  | nil =>
   intro pre eq
   rw [List.append_nil] at eq
   subst eq
   exact Ev.step (Ev.of_eq (g:=fun n=>some true) (fun n=>by simp only [law25_RankTells_L1,ix_ge,cond_false]) (Ev.ret _))
  | cons x r ih =>
   intro pre eq
   have hp : pre.length + 1 ≤ 100:=by rw [eq] at hRl; simp at hRl; omega
   have d : decide ((pre.length : Int) < ln R) = true:=by rw [eq]; exact ix_lt _ _ _
   have g : idx R (pre.length : Int) = some x:=by rw [eq]; exact ix_get _ _ _
   have b : (x != x) = false:=by simp
   refine Ev.step (Ev.of_eq (fun n=>?_) (ih (pre ++ [x]) (by rw [eq]; exact ix_cons _ _ _)))
   simp only [law25_RankTells_L1,d,cond_true,g,Option.bind_some,b,cond_false]
   rw [ix_wr pre x (by omega)]
 have first : ∀ (b8 : Bool) (l pre : List Arr2_i64),I = pre ++ l → Ev (fun n=>law25_RankTells_L0 n a0 a1 a2 a3 a4 w ⟨D,ts⟩ gs I I (R,e) (R,e) b8 pre.length) true:=by
  intro b8 l
  induction l with
  | nil =>
   intro pre eq
   rw [List.append_nil] at eq
   have d : decide ((pre.length : Int) < ln I) = false:=by rw [eq]; exact ix_ge _
   refine Ev.step (Ev.of_eq (fun n=>?_) (last b8 (pre.length : Int) R [] rfl))
   simp only [law25_RankTells_L0,d,cond_false]; rfl
  | cons x r ih =>
   intro pre eq
   have hp : pre.length + 1 ≤ 1000000:=by rw [eq] at hl2; simp at hl2; omega
   have d : decide ((pre.length : Int) < ln I) = true:=by rw [eq]; exact ix_lt _ _ _
   have g : idx I (pre.length : Int) = some x:=by rw [eq]; exact ix_get _ _ _
   have b : (!(andL [x.e0 == x.e0,x.e1 == x.e1])) = false:=by simp [andL]
   refine Ev.step (Ev.of_eq (fun n=>?_) (ih (pre ++ [x]) (by rw [eq]; exact ix_cons _ _ _)))
   simp only [law25_RankTells_L0,d,cond_true,g,Option.bind_some,b,cond_false]
   rw [ix_wr pre x (by omega)]
 refine Ev.get ?_
 refine Ev.of_eq (g:=fun n=>(hand_Good n a0 a1 a2 a3 5).bind fun r1=>(law25_read n r1).bind fun r2=>(rank_Inside n r2 gs).bind fun r4=>(ref22_Inside n r2 gs).bind fun r5=>(rank_Order n r2 gs).bind fun r6=>(ref22_Order n r2 gs).bind fun r7=>(law25_known n).bind fun r10=>(fun J9 : Bool → Option Bool=>bif !r10 then J9 true else bif ((ln r4) != (ln r5)) then J9 true else bif (r6.2 != r7.2) then J9 true else J9 ((ln r6.1) != (ln r7.1))) fun b8=>bif b8 then some false else law25_RankTells_L0 n a0 a1 a2 a3 a4 r1 r2 gs r4 r5 r6 r7 b8 0) (fun n=>by simp only [law25_RankTells,g1,Option.bind_some,jn]) ?_
 refine Ev.bind hw (Ev.bind hread (Ev.bind hI (Ev.bind hJ (Ev.bind hO (Ev.bind hP (Ev.bind known25_ev ?_))))))
 simp only [Bool.not_true,cond_false,bne_self_eq_false]
 exact first false I [] rfl
end Go.Su.YtcadbebhhnggdaaGreat
