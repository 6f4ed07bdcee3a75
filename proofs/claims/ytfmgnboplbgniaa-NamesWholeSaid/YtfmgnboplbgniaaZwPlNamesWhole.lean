/-
  NamesWhole: what its code computes is true.
-/
import Derived.Test.YtfmgnboplbgniaaZwPlReadE
import Derived.Test.YtfmgnboplbgniaaZwPlShow
import Derived.Test.YtfmgnboplbgniaaZwRowT
namespace Go.Su.Ytfmgnboplbgniaa
open Go.Mx Go.Proofs
set_option linter.unusedVariables false
set_option linter.unusedSimpArgs false
set_option maxHeartbeats 4000000
mutual
def ers : Stmt → Stmt
 | ⟨k,w,v,m,e,b,l,_⟩=>⟨k,w,v,m,e,ersL b,ersL l,c0⟩
def ersL : List Stmt → List Stmt
 | []=>[]
 | s :: r=>ers s :: ersL r
end
def NxB (r : List Key) : Prop:=∃ k r',r = k :: r' ∧ (∀ w ∈ allOps,isS k w = false) ∧ (bif (k.1 == 1) then bytesEq k.2.1 k_else else false) = false
theorem NxB.nx {r : List Key} (h : NxB r) : Nx allOps r:=by
 obtain ⟨k,r',h1,h2,_⟩:=h
 exact ⟨k,r',h1,h2⟩
theorem nxB_end (r : List Key) : NxB ((3,x_7d,0) :: r):=⟨_,_,rfl,by
 intro w hw
 simp only [List.mem_cons,List.not_mem_nil,or_false] at hw
 rcases hw with rfl | rfl | rfl | rfl | rfl | rfl | rfl <;> rfl,rfl⟩
theorem nx_open (r : List Key) : Nx allOps ((3,x_7b,0) :: r):=⟨_,_,rfl,by
 intro w hw
 simp only [List.mem_cons,List.not_mem_nil,or_false] at hw
 rcases hw with rfl | rfl | rfl | rfl | rfl | rfl | rfl <;> rfl⟩
theorem tkSt_head {d : Nat} {s : Stmt} (h : okS d s) : ∃ w r,tkSt s = (1,w,0) :: r ∧ bytesEq w k_else = false:=by
 obtain ⟨k,w,v,mm,e,b,l,a⟩:=s
 obtain ⟨hH,_⟩:=(show okS d ⟨k,w,v,mm,e,b,l,a⟩ from h)
 cases hH
 case assign =>
  have hw' : w ∈ [k_x,k_y,k_z,k_a,k_t]:=by assumption
  refine ⟨w,_,by rw [tkSt]; rfl,?_⟩
  simp only [List.mem_cons,List.not_mem_nil,or_false] at hw'
  rcases hw' with rfl | rfl | rfl | rfl | rfl <;> rfl
 all_goals exact ⟨_,_,by rw [tkSt]; rfl,rfl⟩
theorem nxB_st {d : Nat} {s : Stmt} (h : okS d s) (r : List Key) : NxB (tkSt s ++ r):=by
 obtain ⟨w,r',h1,h2⟩:=tkSt_head h
 rw [h1]
 exact ⟨(1,w,0),r' ++ r,rfl,fun u _=>rfl,h2⟩
theorem nxB_blk {d : Nat} (l : List Stmt) (h : okSl d l) (r : List Key) : NxB (tkB l ++ ((3,x_7d,0) :: r)):=by
 cases l with
 | nil=>exact nxB_end r
 | cons s q=>rw [okSl] at h; rw [tkB,List.append_assoc]; exact nxB_st h.1 _
section
variable {T : List Token}
def RdSt (T : List Token) (w : ByteArray) (s : Stmt) : Prop:=∀ (d dp at_ : Nat) (r : List Key) (b : Int),okS d s → dp + d ≤ 7 → Vw T at_ (tkSt s ++ r) → NxB r →
 ∃ s',Ev (fun n=>ref1_Reader_stmt n ⟨T,(at_ : Int),false,b⟩ w (dp : Int)) (s',⟨T,((at_ + (tkSt s).length : Nat) : Int),false,b⟩) ∧ ers s' = ers s
def RdL (T : List Token) (w : ByteArray) (l : List Stmt) : Prop:=∀ (d dp at_ : Nat) (r : List Key) (b : Int) (a0 v1 r4 : Reader) (pre : List Stmt),okSl d l → (l ≠ [] → dp + d ≤ 7) → Vw T at_ (tkB l ++ ((3,x_7d,0) :: r)) → pre.length ≤ at_ →
 ∃ l',Ev (fun n=>ref1_Reader_block_L0 n a0 w (dp : Int) v1 r4 ⟨T,(at_ : Int),false,b⟩ pre) (pre ++ l',⟨T,((at_ + (tkB l).length + 1 : Nat) : Int),false,b⟩) ∧ ersL l' = ersL l
theorem block_k (g : GoodT T) {w : ByteArray} {l : List Stmt} (hl : RdL T w l) {d dp at_ : Nat} {r : List Key} (b : Int) (ho : okSl d l) (h7 : l ≠ [] → dp + d ≤ 7) (h8 : dp ≤ 8) (hv : Vw T at_ ((3,x_7b,0) :: (tkB l ++ ((3,x_7d,0) :: r)))) :
  ∃ l',Ev (fun n=>ref1_Reader_block n ⟨T,(at_ : Int),false,b⟩ w (dp : Int)) (l',⟨T,((at_ + (1 + (tkB l).length + 1) : Nat) : Int),false,b⟩) ∧ ersL l' = ersL l:=by
 obtain ⟨_,h2,h3⟩:=Vw.cons hv
 obtain ⟨l',k1,k2⟩:=hl d dp (at_ + 1) r b ⟨T,(at_ : Int),false,b⟩ ⟨T,(at_ : Int),false,b⟩ ⟨T,((at_ + 1 : Nat) : Int),false,b⟩ [] ho h7 h3 (by simp)
 have d8 : decide ((dp : Int) > 8) = false:=decide_eq_false (by omega)
 have m1:=must_k g hv b
 refine ⟨l',Ev.step (Ev.of_eq (fun n=>?_) (by rw [show at_ + (1 + (tkB l).length + 1) = at_ + 1 + (tkB l).length + 1 by omega]; exact k1)),k2⟩
 simp only [ref1_Reader_block,jn,d8,cond_false,m1,Option.bind_some]
theorem loop_nil (g : GoodT T) (w : ByteArray) : RdL T w []:=fun d dp at_ r b a0 v1 r4 pre ho h7 hv hp=>by
 have hv' : Vw T at_ ((3,x_7d,0) :: r):=hv
 obtain ⟨_,h2,h3⟩:=Vw.cons hv'
 have s1 : ∀ n,ref1_Reader_sign n ⟨T,(at_ : Int),false,b⟩ x_7d = some true:=fun n=>sign_k hv' b x_7d n
 have m1:=must_k g hv' b
 refine ⟨[],Ev.step (Ev.of_eq (g:=fun n=>some (pre,⟨T,((at_ + 1 : Nat) : Int),false,b⟩)) (fun n=>?_) (by rw [List.append_nil]; exact Ev.ret _)),rfl⟩
 simp only [ref1_Reader_block_L0,jn,Bool.not_false,Bool.not_true,cond_true,cond_false,s1,Option.bind_some,m1]
theorem loop_cons (g : GoodT T) (w : ByteArray) {s : Stmt} {q : List Stmt} (hs : RdSt T w s) (hq : RdL T w q) : RdL T w (s :: q):=fun d dp at_ r b a0 v1 r4 pre ho h7 hv hp=>by
 rw [okSl] at ho
 have h7':=h7 (by simp)
 rw [tkB,List.append_assoc] at hv
 obtain ⟨w0,r0,e0,_⟩:=tkSt_head ho.1
 have hv0:=hv
 rw [e0] at hv0
 have hlt:=(Vw.cons (r:=r0 ++ (tkB q ++ ((3,x_7d,0) :: r))) hv0).2.1
 have s1 : ∀ n,ref1_Reader_sign n ⟨T,(at_ : Int),false,b⟩ x_7d = some false:=fun n=>sign_k (r:=r0 ++ (tkB q ++ ((3,x_7d,0) :: r))) hv0 b x_7d n
 obtain ⟨s',k1,k2⟩:=hs d dp at_ _ b ho.1 h7' hv (nxB_blk q ho.2 r)
 have hl1 : 1 ≤ (tkSt s).length:=by rw [e0]; simp
 obtain ⟨l',m1,m2⟩:=hq d dp (at_ + (tkSt s).length) r b a0 v1 r4 (pre ++ [s']) ho.2 (fun _=>h7') hv.app (by simp; omega)
 have rm:=roomP pre.length (by have:=g.len; omega) s'
 refine ⟨s' :: l',Ev.step (Ev.of_eq (g:=fun n=>(ref1_Reader_stmt n ⟨T,(at_ : Int),false,b⟩ w (dp : Int)).bind fun r10=>bif !r10.2.Fail then (bif room s_Stmt.i1.bytes pre.length [r10.1].length then ref1_Reader_block_L0 n a0 w (dp : Int) v1 r4 r10.2 (pre ++ [r10.1]) else none) else ref1_Reader_block_L0 n a0 w (dp : Int) v1 r4 r10.2 pre) (fun n=>?_) (Ev.bind k1 ?_)),by rw [ersL,ersL,k2,m2]⟩
 ·simp only [ref1_Reader_block_L0,jn,Bool.not_false,cond_true,s1,Option.bind_some]
 ·simp only [Bool.not_false,cond_true,rm]
  rw [tkB,List.length_append,show at_ + ((tkSt s).length + (tkB q).length) + 1 = at_ + (tkSt s).length + (tkB q).length + 1 by omega]
  simpa using m1
theorem stmt_k (g : GoodT T) (w : ByteArray) (hsz : w.size ≤ 6000) {k : Int} {nm v : ByteArray} {mm : Int} {e : Expr} {bo l : List Stmt} {a : Cx} (hb : RdL T w bo) (hl : RdL T w l) : RdSt T w ⟨k,nm,v,mm,e,bo,l,a⟩:=fun d dp at_ r b ho h7 hv hr=>by
 obtain ⟨hH,h0,_,ob,ol⟩:=(show okS d ⟨k,nm,v,mm,e,bo,l,a⟩ from ho)
 have dn : ∀ x : List Stmt,(d = 0 → x = []) → x ≠ [] → (dp + 1) + (d - 1) ≤ 7:=fun x hx hne=>by
  rcases Nat.eq_zero_or_pos d with z | z
  ·exact absurd (hx z) hne
  ·omega
 have hd1:=wr1 dp (by omega)
 cases hH
 case assign =>
  have he : okE 4 e:=by assumption
  have hw' : nm ∈ [k_x,k_y,k_z,k_a,k_t]:=by assumption
  have hv' : Vw T at_ ((1,nm,0) :: (3,x_3d,0) :: (tkE 4 e ++ r)):=by rw [tkSt] at hv; exact hv
  obtain ⟨⟨p,h1⟩,h2,h3⟩:=Vw.cons hv'
  obtain ⟨_,h4,h5⟩:=Vw.cons h3
  obtain ⟨z,hz,_⟩:=place_ev w hsz p
  have m1:=must_k g h3 b
  have k1:=whole_k g he w b h5 hr.nx
  have kk:=noKw5 nm (by simp only [List.mem_cons,List.not_mem_nil,or_false] at hw' ⊢; rcases hw' with h | h | h | h | h <;> simp [h])
  refine ⟨⟨1,nm,b0,0,e,[],[],z⟩,Ev.step (Ev.of_eq (g:=fun n=>(ref1_Place n w p).bind fun r2=>(ref1_Keyword n nm).bind fun r41=>bif r41 then (ref1_Reader_failAt n ⟨T,((at_ + 1 : Nat) : Int),false,b⟩ (wr (((at_ + 1 : Nat) : Int) - 1))).bind fun r42=>some (⟨0,b0,b0,0,⟨0,0,b0,[]⟩,[],[],r2⟩,r42) else
   (ref1_Reader_whole n ⟨T,((at_ + 1 + 1 : Nat) : Int),false,b⟩ w).bind fun r44=>some (⟨1,nm,b0,0,⟨r44.1.Kind,r44.1.N,r44.1.Name,r44.1.Of⟩,[],[],r2⟩,r44.2)) (fun n=>?_) (Ev.bind hz (Ev.bind kk (Ev.no rfl (Ev.bind k1 ?_))))),by rw [ers,ers]⟩
  ·simp only [List.mem_cons,List.not_mem_nil,or_false] at hw'
   simp only [ref1_Reader_stmt,h1,Option.bind_some,jn,wrT g h2,m1]
   rcases hw' with rfl | rfl | rfl | rfl | rfl <;> rfl
  ·rw [tkSt]
   have : at_ + ((1,nm,0) :: (3,x_3d,0) :: tkE 4 e : List Key).length = at_ + 1 + 1 + (tkE 4 e).length:=by simp; omega
   show Ev _ (_,(⟨T,((at_ + ((1,nm,0) :: (3,x_3d,0) :: tkE 4 e : List Key).length : Nat) : Int),false,b⟩ : Reader))
   rw [this]
   cases e; exact Ev.ret _
 case lock =>
  have hv' : Vw T at_ ((1,k_lock,0) :: (1,k_m,0) :: r):=by rw [tkSt] at hv; exact hv
  obtain ⟨⟨p,h1⟩,h2,h3⟩:=Vw.cons hv'
  obtain ⟨z,hz,_⟩:=place_ev w hsz p
  have k1:=name_k g h3 (noKw5 k_m (by simp)) b
  refine ⟨⟨2,k_m,b0,0,eN,[],[],z⟩,Ev.step (Ev.of_eq (g:=fun n=>(ref1_Place n w p).bind fun r2=>(ref1_Reader_name n ⟨T,((at_ + 1 : Nat) : Int),false,b⟩).bind fun r29=>some (⟨2,r29.1,b0,0,⟨0,0,b0,[]⟩,[],[],r2⟩,r29.2)) (fun n=>?_) (Ev.bind hz (Ev.bind k1 (Ev.ret _)))),by rw [ers,ers]⟩
  simp only [ref1_Reader_stmt,h1,Option.bind_some,jn,wrT g h2]
  rfl
 case unlock =>
  have hv' : Vw T at_ ((1,k_unlock,0) :: (1,k_m,0) :: r):=by rw [tkSt] at hv; exact hv
  obtain ⟨⟨p,h1⟩,h2,h3⟩:=Vw.cons hv'
  obtain ⟨z,hz,_⟩:=place_ev w hsz p
  have k1:=name_k g h3 (noKw5 k_m (by simp)) b
  refine ⟨⟨3,k_m,b0,0,eN,[],[],z⟩,Ev.step (Ev.of_eq (g:=fun n=>(ref1_Place n w p).bind fun r2=>(ref1_Reader_name n ⟨T,((at_ + 1 : Nat) : Int),false,b⟩).bind fun r29=>some (⟨3,r29.1,b0,0,⟨0,0,b0,[]⟩,[],[],r2⟩,r29.2)) (fun n=>?_) (Ev.bind hz (Ev.bind k1 (Ev.ret _)))),by rw [ers,ers]⟩
  simp only [ref1_Reader_stmt,h1,Option.bind_some,jn,wrT g h2]
  rfl
 case goto =>
  have hw' : nm ∈ [k_l,k_k]:=by assumption
  have hv' : Vw T at_ ((1,k_goto,0) :: (1,nm,0) :: r):=by rw [tkSt] at hv; exact hv
  obtain ⟨⟨p,h1⟩,h2,h3⟩:=Vw.cons hv'
  obtain ⟨z,hz,_⟩:=place_ev w hsz p
  have k1:=name_k g h3 (noKw5 nm (by simp only [List.mem_cons,List.not_mem_nil,or_false] at hw' ⊢; rcases hw' with h | h <;> simp [h])) b
  refine ⟨⟨9,nm,b0,0,eN,[],[],z⟩,Ev.step (Ev.of_eq (g:=fun n=>(ref1_Place n w p).bind fun r2=>(ref1_Reader_name n ⟨T,((at_ + 1 : Nat) : Int),false,b⟩).bind fun r29=>some (⟨9,r29.1,b0,0,⟨0,0,b0,[]⟩,[],[],r2⟩,r29.2)) (fun n=>?_) (Ev.bind hz (Ev.bind k1 (Ev.ret _)))),by rw [ers,ers]⟩
  simp only [ref1_Reader_stmt,h1,Option.bind_some,jn,wrT g h2]
  rfl
 case label =>
  have hw' : nm ∈ [k_l,k_k]:=by assumption
  have hv' : Vw T at_ ((1,k_label,0) :: (1,nm,0) :: r):=by rw [tkSt] at hv; exact hv
  obtain ⟨⟨p,h1⟩,h2,h3⟩:=Vw.cons hv'
  obtain ⟨z,hz,_⟩:=place_ev w hsz p
  have k1:=name_k g h3 (noKw5 nm (by simp only [List.mem_cons,List.not_mem_nil,or_false] at hw' ⊢; rcases hw' with h | h <;> simp [h])) b
  refine ⟨⟨10,nm,b0,0,eN,[],[],z⟩,Ev.step (Ev.of_eq (g:=fun n=>(ref1_Place n w p).bind fun r2=>(ref1_Reader_name n ⟨T,((at_ + 1 : Nat) : Int),false,b⟩).bind fun r29=>some (⟨10,r29.1,b0,0,⟨0,0,b0,[]⟩,[],[],r2⟩,r29.2)) (fun n=>?_) (Ev.bind hz (Ev.bind k1 (Ev.ret _)))),by rw [ers,ers]⟩
  simp only [ref1_Reader_stmt,h1,Option.bind_some,jn,wrT g h2]
  rfl
 case send =>
  have he : okE 4 e:=by assumption
  have hw' : nm ∈ [k_c,k_d]:=by assumption
  have hv' : Vw T at_ ((1,k_send,0) :: (1,nm,0) :: (tkE 4 e ++ r)):=by rw [tkSt] at hv; exact hv
  obtain ⟨⟨p,h1⟩,h2,h3⟩:=Vw.cons hv'
  obtain ⟨_,h4,h5⟩:=Vw.cons h3
  obtain ⟨z,hz,_⟩:=place_ev w hsz p
  have k1:=name_k g h3 (noKw5 nm (by simp only [List.mem_cons,List.not_mem_nil,or_false] at hw' ⊢; rcases hw' with h | h <;> simp [h])) b
  have k2:=whole_k g he w b h5 hr.nx
  refine ⟨⟨4,nm,b0,0,e,[],[],z⟩,Ev.step (Ev.of_eq (g:=fun n=>(ref1_Place n w p).bind fun r2=>(ref1_Reader_name n ⟨T,((at_ + 1 : Nat) : Int),false,b⟩).bind fun r30=>(ref1_Reader_whole n r30.2 w).bind fun r31=>some (⟨4,r30.1,b0,0,⟨r31.1.Kind,r31.1.N,r31.1.Name,r31.1.Of⟩,[],[],r2⟩,r31.2)) (fun n=>?_) (Ev.bind hz (Ev.bind k1 (Ev.bind k2 ?_)))),by rw [ers,ers]⟩
  ·simp only [ref1_Reader_stmt,h1,Option.bind_some,jn,wrT g h2]
   rfl
  ·rw [tkSt]
   have : at_ + ((1,k_send,0) :: (1,nm,0) :: tkE 4 e : List Key).length = at_ + 1 + 1 + (tkE 4 e).length:=by simp; omega
   show Ev _ (_,(⟨T,((at_ + ((1,k_send,0) :: (1,nm,0) :: tkE 4 e : List Key).length : Nat) : Int),false,b⟩ : Reader))
   rw [this]
   cases e; exact Ev.ret _
 case recv =>
  have hw' : nm ∈ [k_c,k_d]:=by assumption
  have hv2 : v ∈ [k_x,k_y,k_z,k_a,k_t]:=by assumption
  have hv' : Vw T at_ ((1,k_recv,0) :: (1,nm,0) :: (1,v,0) :: r):=by rw [tkSt] at hv; exact hv
  obtain ⟨⟨p,h1⟩,h2,h3⟩:=Vw.cons hv'
  obtain ⟨_,h4,h5⟩:=Vw.cons h3
  obtain ⟨z,hz,_⟩:=place_ev w hsz p
  have k1:=name_k g h3 (noKw5 nm (by simp only [List.mem_cons,List.not_mem_nil,or_false] at hw' ⊢; rcases hw' with h | h <;> simp [h])) b
  have k2:=name_k g h5 (noKw5 v (by simp only [List.mem_cons,List.not_mem_nil,or_false] at hv2 ⊢; rcases hv2 with h | h | h | h | h <;> simp [h])) b
  refine ⟨⟨5,nm,v,0,eN,[],[],z⟩,Ev.step (Ev.of_eq (g:=fun n=>(ref1_Place n w p).bind fun r2=>(ref1_Reader_name n ⟨T,((at_ + 1 : Nat) : Int),false,b⟩).bind fun r30=>(ref1_Reader_name n r30.2).bind fun r31=>some (⟨5,r30.1,r31.1,0,⟨0,0,b0,[]⟩,[],[],r2⟩,r31.2)) (fun n=>?_) (Ev.bind hz (Ev.bind k1 (Ev.bind k2 (Ev.ret _))))),by rw [ers,ers]⟩
  simp only [ref1_Reader_stmt,h1,Option.bind_some,jn,wrT g h2]
  rfl
 case print =>
  have he : okE 4 e:=by assumption
  have hv' : Vw T at_ ((1,k_print,0) :: (tkE 4 e ++ r)):=by rw [tkSt] at hv; exact hv
  obtain ⟨⟨p,h1⟩,h2,h3⟩:=Vw.cons hv'
  obtain ⟨z,hz,_⟩:=place_ev w hsz p
  have k2:=whole_k g he w b h3 hr.nx
  refine ⟨⟨6,b0,b0,0,e,[],[],z⟩,Ev.step (Ev.of_eq (g:=fun n=>(ref1_Place n w p).bind fun r2=>(ref1_Reader_whole n ⟨T,((at_ + 1 : Nat) : Int),false,b⟩ w).bind fun r31=>some (⟨6,b0,b0,0,⟨r31.1.Kind,r31.1.N,r31.1.Name,r31.1.Of⟩,[],[],r2⟩,r31.2)) (fun n=>?_) (Ev.bind hz (Ev.bind k2 ?_))),by rw [ers,ers]⟩
  ·simp only [ref1_Reader_stmt,h1,Option.bind_some,jn,wrT g h2]
   rfl
  ·rw [tkSt]
   have : at_ + ((1,k_print,0) :: tkE 4 e : List Key).length = at_ + 1 + (tkE 4 e).length:=by simp; omega
   show Ev _ (_,(⟨T,((at_ + ((1,k_print,0) :: tkE 4 e : List Key).length : Nat) : Int),false,b⟩ : Reader))
   rw [this]
   cases e; exact Ev.ret _
 case rep =>
  have q0 : 0 ≤ mm:=by assumption
  have q1 : mm ≤ 2:=by assumption
  have hv' : Vw T at_ ((1,k_repeat,0) :: (2,dg mm,mm) :: (3,x_7b,0) :: (tkB bo ++ ((3,x_7d,0) :: r))):=by rw [tkSt] at hv; simpa using hv
  obtain ⟨⟨p,h1⟩,h2,h3⟩:=Vw.cons hv'
  obtain ⟨_,h4,h5⟩:=Vw.cons h3
  obtain ⟨z,hz,_⟩:=place_ev w hsz p
  have n1:=number_k g h3 (show mm ≤ 9 by omega) b
  obtain ⟨l',k1,k2⟩:=block_k g hb (dp:=dp + 1) b ob (dn bo fun z=>(h0 z).1) (by omega) h5
  refine ⟨⟨8,b0,b0,mm,eN,l',[],z⟩,Ev.step (Ev.of_eq (g:=fun n=>(ref1_Place n w p).bind fun r2=>(ref1_Reader_block n ⟨T,((at_ + 1 + 1 : Nat) : Int),false,b⟩ w ((dp + 1 : Nat) : Int)).bind fun r40=>some (⟨8,b0,b0,mm,⟨0,0,b0,[]⟩,r40.1,[],r2⟩,r40.2)) (fun n=>?_) (Ev.bind hz (Ev.bind k1 ?_))),by rw [ers,ers,k2]⟩
  ·simp only [ref1_Reader_stmt,h1,Option.bind_some,jn,wrT g h2,n1,hd1]
   rfl
  ·rw [tkSt]
   have : at_ + ((1,k_repeat,0) :: (2,dg mm,mm) :: (3,x_7b,0) :: (tkB bo ++ [(3,x_7d,0)]) : List Key).length = at_ + 1 + 1 + (1 + (tkB bo).length + 1):=by simp; omega
   show Ev _ (_,(⟨T,((at_ + ((1,k_repeat,0) :: (2,dg mm,mm) :: (3,x_7b,0) :: (tkB bo ++ [(3,x_7d,0)]) : List Key).length : Nat) : Int),false,b⟩ : Reader))
   rw [this]
   exact Ev.ret _
 case cond =>
  have he : okE 4 e:=by assumption
  cases hl0 : l with
  | nil =>
   subst hl0
   have hv' : Vw T at_ ((1,k_if,0) :: (tkE 4 e ++ ((3,x_7b,0) :: (tkB bo ++ ((3,x_7d,0) :: r))))):=by rw [tkSt] at hv; simpa using hv
   obtain ⟨⟨p,h1⟩,h2,h3⟩:=Vw.cons hv'
   obtain ⟨z,hz,_⟩:=place_ev w hsz p
   have k0:=whole_k g he w b h3 (nx_open _)
   have h5:=h3.app
   obtain ⟨l',k1,k2⟩:=block_k g hb (dp:=dp + 1) b ob (dn bo fun z=>(h0 z).1) (by omega) h5
   have h6 : Vw T (at_ + 1 + (tkE 4 e).length + (1 + (tkB bo).length + 1)) r:=by
    have:=(Vw.cons ((Vw.cons h5).2.2.app)).2.2
    rw [show at_ + 1 + (tkE 4 e).length + (1 + (tkB bo).length + 1) = at_ + 1 + (tkE 4 e).length + 1 + (tkB bo).length + 1 by omega]; exact this
   obtain ⟨kq,rq,hq,_,hel⟩:=hr
   rw [hq] at h6
   have w1:=word_k h6 b k_else
   rw [hel] at w1
   refine ⟨⟨7,b0,b0,0,e,l',[],z⟩,Ev.step (Ev.of_eq (g:=fun n=>(ref1_Place n w p).bind fun r2=>(ref1_Reader_whole n ⟨T,((at_ + 1 : Nat) : Int),false,b⟩ w).bind fun r35=>(ref1_Reader_block n r35.2 w ((dp + 1 : Nat) : Int)).bind fun r36=>(ref1_Reader_word n r36.2 k_else).bind fun r37=>bif r37 then
    (ref1_Reader_block n (Reader.mk r36.2.T (wr (r36.2.At + 1)) r36.2.Fail r36.2.Bad) w ((dp + 1 : Nat) : Int)).bind fun r38=>some (⟨7,b0,b0,0,⟨r35.1.Kind,r35.1.N,r35.1.Name,r35.1.Of⟩,r36.1,r38.1,r2⟩,r38.2) else some (⟨7,b0,b0,0,⟨r35.1.Kind,r35.1.N,r35.1.Name,r35.1.Of⟩,r36.1,[],r2⟩,r36.2)) (fun n=>?_) (Ev.bind hz (Ev.bind k0 (Ev.bind k1 ?_)))),by rw [ers,ers,k2]⟩
   ·simp only [ref1_Reader_stmt,h1,Option.bind_some,jn,wrT g h2,hd1]
    rfl
   ·rw [tkSt]
    have : at_ + ((1,k_if,0) :: (tkE 4 e ++ ((3,x_7b,0) :: (tkB bo ++ ((3,x_7d,0) :: [])))) : List Key).length = at_ + 1 + (tkE 4 e).length + (1 + (tkB bo).length + 1):=by simp; omega
    show Ev _ (_,(⟨T,((at_ + ((1,k_if,0) :: (tkE 4 e ++ ((3,x_7b,0) :: (tkB bo ++ ((3,x_7d,0) :: [])))) : List Key).length : Nat) : Int),false,b⟩ : Reader))
    rw [this]
    simp only [w1,Option.bind_some,cond_false]
    cases e; exact Ev.ret _
  | cons l0 lr =>
   have hv' : Vw T at_ ((1,k_if,0) :: (tkE 4 e ++ ((3,x_7b,0) :: (tkB bo ++ ((3,x_7d,0) :: (1,k_else,0) :: (3,x_7b,0) :: (tkB l ++ ((3,x_7d,0) :: r))))))):=by
    rw [tkSt] at hv
    have hne : l.isEmpty = false:=by rw [hl0]; rfl
    rw [hne] at hv
    simpa using hv
   have hne : l ≠ []:=by rw [hl0]; simp
   obtain ⟨⟨p,h1⟩,h2,h3⟩:=Vw.cons hv'
   obtain ⟨z,hz,_⟩:=place_ev w hsz p
   have k0:=whole_k g he w b h3 (nx_open _)
   have h5:=h3.app
   obtain ⟨l',k1,k2⟩:=block_k g hb (dp:=dp + 1) b ob (dn bo fun z=>(h0 z).1) (by omega) h5
   have h6 : Vw T (at_ + 1 + (tkE 4 e).length + (1 + (tkB bo).length + 1)) ((1,k_else,0) :: (3,x_7b,0) :: (tkB l ++ ((3,x_7d,0) :: r))):=by
    have:=(Vw.cons ((Vw.cons h5).2.2.app)).2.2
    rw [show at_ + 1 + (tkE 4 e).length + (1 + (tkB bo).length + 1) = at_ + 1 + (tkE 4 e).length + 1 + (tkB bo).length + 1 by omega]; exact this
   have w1 : ∀ n,ref1_Reader_word n ⟨T,((at_ + 1 + (tkE 4 e).length + (1 + (tkB bo).length + 1) : Nat) : Int),false,b⟩ k_else = some true:=fun n=>word_k h6 b k_else n
   obtain ⟨_,h7',h8⟩:=Vw.cons h6
   obtain ⟨l'',m1,m2⟩:=block_k g hl (dp:=dp + 1) b ol (dn l fun z=>(h0 z).2) (by omega) h8
   refine ⟨⟨7,b0,b0,0,e,l',l'',z⟩,Ev.step (Ev.of_eq (g:=fun n=>(ref1_Place n w p).bind fun r2=>(ref1_Reader_whole n ⟨T,((at_ + 1 : Nat) : Int),false,b⟩ w).bind fun r35=>(ref1_Reader_block n r35.2 w ((dp + 1 : Nat) : Int)).bind fun r36=>(ref1_Reader_word n r36.2 k_else).bind fun r37=>bif r37 then
    (ref1_Reader_block n (Reader.mk r36.2.T (wr (r36.2.At + 1)) r36.2.Fail r36.2.Bad) w ((dp + 1 : Nat) : Int)).bind fun r38=>some (⟨7,b0,b0,0,⟨r35.1.Kind,r35.1.N,r35.1.Name,r35.1.Of⟩,r36.1,r38.1,r2⟩,r38.2) else some (⟨7,b0,b0,0,⟨r35.1.Kind,r35.1.N,r35.1.Name,r35.1.Of⟩,r36.1,[],r2⟩,r36.2)) (fun n=>?_) (Ev.bind hz (Ev.bind k0 (Ev.bind k1 ?_)))),by rw [ers,ers,k2,m2,← hl0]⟩
   ·simp only [ref1_Reader_stmt,h1,Option.bind_some,jn,wrT g h2,hd1]
    rfl
   ·have ht : (tkSt ⟨7,b0,b0,0,e,bo,l0 :: lr,c0⟩ : List Key) = (1,k_if,0) :: (tkE 4 e ++ ((3,x_7b,0) :: (tkB bo ++ ((3,x_7d,0) :: (1,k_else,0) :: (3,x_7b,0) :: (tkB (l0 :: lr) ++ [(3,x_7d,0)]))))):=by rw [tkSt]; rfl
    rw [ht,← hl0]
    have : at_ + ((1,k_if,0) :: (tkE 4 e ++ ((3,x_7b,0) :: (tkB bo ++ ((3,x_7d,0) :: (1,k_else,0) :: (3,x_7b,0) :: (tkB l ++ [(3,x_7d,0)]))))) : List Key).length = at_ + 1 + (tkE 4 e).length + (1 + (tkB bo).length + 1) + 1 + (1 + (tkB l).length + 1):=by simp; omega
    rw [this]
    simp only [w1,Option.bind_some,cond_true,wrT g h7']
    refine Ev.bind m1 ?_
    cases e; exact Ev.ret _
theorem reads_k (g : GoodT T) (w : ByteArray) (hsz : w.size ≤ 6000) : (∀ s : Stmt,RdSt T w s) ∧ ∀ l : List Stmt,RdL T w l :=
 stmt_ind (fun k nm v m e b l a hb hl=>stmt_k g w hsz hb hl) (loop_nil g w) (fun s r hs hr=>loop_cons g w hs hr)
end
end Go.Su.Ytfmgnboplbgniaa
namespace Go.Su.Ytfmgnboplbgniaa
open Go.Mx Go.Proofs
set_option linter.unusedVariables false
set_option linter.unusedSimpArgs false
set_option maxHeartbeats 4000000
def erd (d : Decl) : Decl:=⟨d.Kind,d.Name,d.N,c0⟩
def rdD2 (d : Decl) : Prop:=1 ≤ d.Kind ∧ d.Kind ≤ 6 ∧ 0 ≤ d.N ∧ d.N ≤ 3 ∧ (d.Kind ≠ 6 → d.N = 0) ∧ NoKw d.Name
set_option maxRecDepth 100000 in
theorem dk1 (m : Nat) : ref1_declKind (m + 20) (kwD 1) = some 1:=by kernel_rfl
set_option maxRecDepth 100000 in
theorem dk2 (m : Nat) : ref1_declKind (m + 20) (kwD 2) = some 2:=by kernel_rfl
set_option maxRecDepth 100000 in
theorem dk3 (m : Nat) : ref1_declKind (m + 20) (kwD 3) = some 3:=by kernel_rfl
set_option maxRecDepth 100000 in
theorem dk4 (m : Nat) : ref1_declKind (m + 20) (kwD 4) = some 4:=by kernel_rfl
set_option maxRecDepth 100000 in
theorem dk5 (m : Nat) : ref1_declKind (m + 20) (kwD 5) = some 5:=by kernel_rfl
set_option maxRecDepth 100000 in
theorem dk6 (m : Nat) : ref1_declKind (m + 20) (kwD 6) = some 6:=by kernel_rfl
theorem dk_ev (k : Int) (h1 : 1 ≤ k) (h6 : k ≤ 6) : Ev (fun n=>ref1_declKind n (kwD k)) k:=by
 refine ⟨20,fun n hn=>?_⟩
 obtain ⟨m,rfl⟩ : ∃ m,n = m + 20:=⟨n - 20,by omega⟩
 have : k = 1 ∨ k = 2 ∨ k = 3 ∨ k = 4 ∨ k = 5 ∨ k = 6:=by omega
 rcases this with rfl | rfl | rfl | rfl | rfl | rfl
 ·exact dk1 m
 ·exact dk2 m
 ·exact dk3 m
 ·exact dk4 m
 ·exact dk5 m
 ·exact dk6 m
set_option maxRecDepth 100000 in
theorem dk_go : Ev (fun n=>ref1_declKind n k_go) 0:=by
 refine ⟨20,fun n hn=>?_⟩
 obtain ⟨m,rfl⟩ : ∃ m,n = m + 20:=⟨n - 20,by omega⟩
 kernel_rfl
section
variable {T : List Token}
theorem declsK (g : GoodT T) (s : ByteArray) (hs : s.size ≤ 6000) (r1 : List Token × Int × Int) : ∀ (l : List Decl) (at_ : Nat) (b : Int) (acc : List Decl) (r : List Key),(∀ d ∈ l,rdD2 d) → acc.length + l.length ≤ 23 → Vw T at_ (tkDs l ++ ((1,k_go,0) :: r)) →
  ∃ l',EvJ (fun n J=>ref1_Parse_L0 n s r1 (un0 J) T (at_ : Int) false b acc) (T,((at_ + (tkDs l).length : Nat) : Int),false,b,acc ++ l') ∧ l'.map erd = l.map erd
 | [],at_,b,acc,r,hd,hn,hv=>by
  have hv' : Vw T at_ ((1,k_go,0) :: r):=hv
  obtain ⟨⟨p,h1⟩,h2,h3⟩:=Vw.cons hv'
  refine ⟨[],EvJ.step (EvJ.of_eq (g:=fun n J=>(ref1_declKind n k_go).bind fun r17=>bif decide (r17 > 0) then ref1_Parse_L0 (n + 1) s r1 (un0 J) T (at_ : Int) false b acc else J (T,(at_ : Int),false,b,acc)) (fun n J=>?_) (EvJ.bind dk_go ?_)),rfl⟩
  ·have e1 : ((1 : Int) == 1) = true:=rfl
   cases hkk : ref1_declKind n k_go with
   | none=>simp only [ref1_Parse_L0,jn,Bool.not_false,cond_true,h1,Option.bind_some,e1,hkk,Option.bind_none]
   | some r17 =>
    simp only [Option.bind_some]
    by_cases h17 : r17 > 0
    ·simp only [decide_eq_true h17,cond_true]
    ·simp only [ref1_Parse_L0,jn,Bool.not_false,cond_true,h1,Option.bind_some,e1,hkk,decide_eq_false h17,cond_false]
  ·rw [List.append_nil]; exact EvJ.now _
 | d :: l,at_,b,acc,r,hd,hn,hv=>by
  obtain ⟨a1,a2,a3,a4,a5,a6⟩:=hd d (by simp)
  have hv' : Vw T at_ ((1,kwD d.Kind,0) :: (1,d.Name,0) :: ((bif (d.Kind == 6) then [(2,dg d.N,d.N)] else []) ++ (tkDs l ++ ((1,k_go,0) :: r)))):=by
   rw [tkDs,tkD] at hv; simpa using hv
  obtain ⟨⟨p,h1⟩,h2,h3⟩:=Vw.cons hv'
  obtain ⟨_,h4,h5⟩:=Vw.cons h3
  have e1 : ((1 : Int) == 1) = true:=rfl
  have hkd:=dk_ev d.Kind a1 a2
  have dpos : decide (d.Kind > 0) = true:=decide_eq_true (by omega)
  have e24 : (ln acc == 24) = false:=beq_eq_false_iff_ne.2 (by show ((acc.length : Nat) : Int) ≠ 24; simp at hn; omega)
  obtain ⟨z,hz,_⟩:=place_ev s hs p
  have k1:=name_k g h3 a6 b
  have rm : ∀ d : Decl,room s_Decl.i1.bytes acc.length [d].length = true:=fun d=>room_of (by
   have : s_Decl.i1.bytes = 48:=rfl
   rw [this]; simp only [List.length_singleton]; simp at hn; omega)
  have head : ∀ n (J : St0 → Option (Prog × Int × Int)),ref1_Parse_L0 (n + 1) s r1 (un0 J) T (at_ : Int) false b acc = (ref1_declKind n (kwD d.Kind)).bind fun r17=>bif decide (r17 > 0) then (ref1_declKind n (kwD d.Kind)).bind fun r20=>(ref1_Place n s p).bind fun r22=>(ref1_Reader_name n ⟨T,((at_ + 1 : Nat) : Int),false,b⟩).bind fun r23 =>
    bif (r20 == 6) then (ref1_Reader_number n r23.2 3).bind fun r27=>(bif room s_Decl.i1.bytes acc.length [(Decl.mk r20 r23.1 r27.1 r22)].length then ref1_Parse_L0 n s r1 (un0 J) r27.2.T r27.2.At r27.2.Fail r27.2.Bad (acc ++ [(Decl.mk r20 r23.1 r27.1 r22)]) else none)
    else (bif room s_Decl.i1.bytes acc.length [(Decl.mk r20 r23.1 0 r22)].length then ref1_Parse_L0 n s r1 (un0 J) r23.2.T r23.2.At r23.2.Fail r23.2.Bad (acc ++ [(Decl.mk r20 r23.1 0 r22)]) else none) else J (T,(at_ : Int),false,b,acc):=by
   intro n J
   simp only [ref1_Parse_L0,jn,Bool.not_false,cond_true,h1,Option.bind_some,e1,e24,cond_false,wrT g h2]
  cases h6 : (d.Kind == 6)
  ·rw [h6,cond_false,List.nil_append] at h5
   have hN:=a5 (by simpa using h6)
   obtain ⟨l',n1,n2⟩:=declsK g s hs r1 l (at_ + 1 + 1) b (acc ++ [⟨d.Kind,d.Name,0,z⟩]) r (fun y hy=>hd y (by simp [hy])) (by simp at hn ⊢; omega) h5
   refine ⟨⟨d.Kind,d.Name,0,z⟩ :: l',EvJ.step (EvJ.of_eq head (EvJ.bind hkd ?_)),by rw [List.map_cons,List.map_cons,n2,erd,erd,hN]⟩
   simp only [dpos,cond_true]
   refine EvJ.bind hkd (EvJ.bind hz (EvJ.bind k1 ?_))
   simp only [h6,cond_false,rm,cond_true]
   rw [tkDs,tkD,h6,cond_false,List.length_append,List.length_cons,List.length_cons,List.length_nil,show at_ + (0 + 1 + 1 + (tkDs l).length) = at_ + 1 + 1 + (tkDs l).length by omega]
   rw [List.append_assoc,List.singleton_append] at n1
   exact n1
  ·rw [h6,cond_true,List.singleton_append] at h5
   have hN:=number_k g h5 (show d.N ≤ 3 from a4) b
   have h7:=(Vw.cons h5).2.2
   obtain ⟨l',n1,n2⟩:=declsK g s hs r1 l (at_ + 1 + 1 + 1) b (acc ++ [⟨d.Kind,d.Name,d.N,z⟩]) r (fun y hy=>hd y (by simp [hy])) (by simp at hn ⊢; omega) h7
   refine ⟨⟨d.Kind,d.Name,d.N,z⟩ :: l',EvJ.step (EvJ.of_eq head (EvJ.bind hkd ?_)),by rw [List.map_cons,List.map_cons,n2]; rfl⟩
   simp only [dpos,cond_true]
   refine EvJ.bind hkd (EvJ.bind hz (EvJ.bind k1 ?_))
   simp only [h6,cond_true,hN,Option.bind_some,rm]
   rw [tkDs,tkD,h6,cond_true,List.length_append,List.length_cons,List.length_cons,List.length_cons,List.length_nil,show at_ + (0 + 1 + 1 + 1 + (tkDs l).length) = at_ + 1 + 1 + 1 + (tkDs l).length by omega]
   rw [List.append_assoc,List.singleton_append] at n1
   exact n1
abbrev PEnd (T : List Token) (D : List Decl) : List Token → Int → Bool → Int → List (List Stmt) → Option (Prog × Int × Int):=fun l29 i30 b31 i32 l33=>bif b31 then (idx T i32).bind fun x49=>some (⟨[],[]⟩,x49.At,2) else some (⟨D,l33⟩,0,0)
theorem threadsK (g : GoodT T) (s : ByteArray) (hs : s.size ≤ 6000) (r1 : List Token × Int × Int) (l2 : List Token) (i3 : Int) (b4 : Bool) (i5 : Int) (l6 : List Decl) : ∀ (ts : List (List Stmt)) (at_ : Nat) (b : Int) (acc : List (List Stmt)),okTs ts → acc.length + ts.length ≤ 4 → 1 ≤ acc.length + ts.length → Vw T at_ (tkTs ts ++ [(4,b0,0)]) →
  ∃ ts',Ev (fun n=>ref1_Parse_L1 n s r1 l2 i3 b4 i5 l6 (PEnd T l6) T (at_ : Int) false b acc) (⟨l6,acc ++ ts'⟩,0,0) ∧ ts'.map ersL = ts.map ersL
 | [],at_,b,acc,ho,h4,h1',hv=>by
  have hv' : Vw T at_ [(4,b0,0)]:=hv
  obtain ⟨⟨p,h1⟩,h2,h3⟩:=Vw.cons hv'
  have e0 : (ln acc == 0) = false:=beq_eq_false_iff_ne.2 (by show ((acc.length : Nat) : Int) ≠ 0; simp at h1'; omega)
  have e1 : ((4 : Int) != 4) = false:=rfl
  refine ⟨[],Ev.step (Ev.of_eq (g:=fun n=>some (⟨l6,acc⟩,0,0)) (fun n=>?_) (by rw [List.append_nil]; exact Ev.ret _)),rfl⟩
  simp only [ref1_Parse_L1,jn,Bool.not_false,cond_true,cond_false,h1,Option.bind_some,e1,e0]
 | t :: ts,at_,b,acc,ho,h4,h1',hv=>by
  have hv' : Vw T at_ ((1,k_go,0) :: (3,x_7b,0) :: (tkB t ++ ((3,x_7d,0) :: (tkTs ts ++ [(4,b0,0)])))):=by rw [tkTs] at hv; simpa using hv
  obtain ⟨⟨p,h1⟩,h2,h3⟩:=Vw.cons hv'
  have e1 : ((1 : Int) != 4) = true:=rfl
  have e4 : (ln acc == 4) = false:=beq_eq_false_iff_ne.2 (by show ((acc.length : Nat) : Int) ≠ 4; simp at h4; omega)
  have w1 : ∀ n,ref1_Reader_word n ⟨T,(at_ : Int),false,b⟩ k_go = some true:=fun n=>word_k hv' b k_go n
  obtain ⟨o1,_⟩:=ho t (by simp)
  obtain ⟨l',k1,k2⟩:=block_k g ((reads_k g s hs).2 t) (dp:=1) b o1 (fun _=>by omega) (by omega) h3
  have h6 : Vw T (at_ + 1 + (1 + (tkB t).length + 1)) (tkTs ts ++ [(4,b0,0)]):=by
   have:=(Vw.cons ((Vw.cons h3).2.2.app)).2.2
   rw [show at_ + 1 + (1 + (tkB t).length + 1) = at_ + 1 + 1 + (tkB t).length + 1 by omega]; exact this
  obtain ⟨ts',n1,n2⟩:=threadsK g s hs r1 l2 i3 b4 i5 l6 ts (at_ + 1 + (1 + (tkB t).length + 1)) b (acc ++ [l']) (fun y hy=>ho y (by simp [hy])) (by simp at h4 ⊢; omega) (by simp; omega) h6
  have rm : room s_LStmt.i1.bytes acc.length [l'].length = true:=room_of (by
   have : s_LStmt.i1.bytes = 24:=rfl
   rw [this]; simp only [List.length_singleton]; simp at h4; omega)
  refine ⟨l' :: ts',Ev.step (Ev.of_eq (g:=fun n=>(ref1_Reader_block n ⟨T,((at_ + 1 : Nat) : Int),false,b⟩ s ((1 : Nat) : Int)).bind fun r47=>bif room s_LStmt.i1.bytes acc.length [r47.1].length then ref1_Parse_L1 n s r1 l2 i3 b4 i5 l6 (PEnd T l6) r47.2.T r47.2.At r47.2.Fail r47.2.Bad (acc ++ [r47.1]) else none) (fun n=>?_) (Ev.bind k1 ?_)),by rw [List.map_cons,List.map_cons,k2,n2]⟩
  ·simp only [ref1_Parse_L1,jn,Bool.not_false,Bool.not_true,cond_true,cond_false,h1,Option.bind_some,e1,e4,w1,wrT g h2]
   rfl
  ·simp only [rm,cond_true]
   rw [List.append_assoc,List.singleton_append] at n1
   exact n1
end
theorem round_ev (D : List Decl) (ts : List (List Stmt)) (hD : ∀ d ∈ D,rdD d ∧ rdD2 d) (hts : okTs ts) (hDn : D.length ≤ 23) (h1 : 1 ≤ ts.length) (hn : ts.length ≤ 4) (hs : 11 * D.length + wtT ts ≤ 6000) :
  ∃ w D' ts',Ev (fun n=>ref1_Show n ⟨D,ts⟩) w ∧ Ev (fun n=>ref1_Parse n w) (⟨D',ts'⟩,0,0) ∧ D'.map erd = D.map erd ∧ ts'.map ersL = ts.map ersL:=by
 obtain ⟨w,T0,s1,s2,s3,s4⟩:=ShowT_ev D ts (fun d hd=>(hD d hd).1) hts (by omega) hs
 obtain ⟨T,k,e,t1,t2⟩:=toks_ev w
 have hu:=Ev.unique t1 s2
 obtain ⟨rfl,rfl,rfl⟩ : T = T0 ++ [⟨4,b0,0,(w.size : Int)⟩] ∧ k = 0 ∧ e = 0:=by
  rw [Prod.mk.injEq,Prod.mk.injEq] at hu; exact hu
 obtain ⟨g,hsz⟩:=t2.resolve_left (fun h=>h rfl)
 have hv : Vw (T0 ++ [⟨4,b0,0,(w.size : Int)⟩]) 0 (tkDs D ++ (tkTs ts ++ [(4,b0,0)])):=by
  unfold Vw
  rw [List.drop_zero,List.map_append,s3,List.append_assoc]; rfl
 obtain ⟨r,hr⟩ : ∃ r,tkTs ts ++ [(4,b0,0)] = ((1,k_go,0) : Key) :: r:=by
  cases ts with
  | nil=>simp at h1
  | cons t q=>exact ⟨_,by rw [tkTs]; rfl⟩
 generalize T0 ++ [⟨4,b0,0,(w.size : Int)⟩] = T at *
 obtain ⟨D',d1,d2⟩:=declsK g w hsz (T,0,0) D 0 0 [] r (fun d hd=>(hD d hd).2) (by simpa using hDn) (by rw [← hr]; exact hv)
 obtain ⟨ts',e1,e2⟩:=threadsK g w hsz (T,0,0) T ((0 + (tkDs D).length : Nat) : Int) false 0 D' ts (0 + (tkDs D).length) 0 [] hts (by simpa using hn) (by simpa using h1) hv.app
 rw [List.nil_append] at d1 e1
 refine ⟨w,D',ts',s1,Ev.of_eq (g:=fun n=>(ref1_Tokens n w).bind fun r1=>bif (r1.2.2 != 0) then some (⟨[],[]⟩,r1.2.1,r1.2.2) else
  ref1_Parse_L0 n w r1 (un0 fun q=>ref1_Parse_L1 n w r1 q.1 q.2.1 q.2.2.1 q.2.2.2.1 q.2.2.2.2 (fun l29 i30 b31 i32 l33=>bif b31 then (idx r1.1 i32).bind fun x49=>some (⟨[],[]⟩,x49.At,2) else some (⟨q.2.2.2.2,l33⟩,0,0)) q.1 q.2.1 q.2.2.1 q.2.2.2.1 []) r1.1 0 false 0 []) (fun n=>by simp only [ref1_Parse,jn]) (Ev.bind s2 (Ev.no rfl ?_)),d2,e2⟩
 obtain ⟨k1,hk1⟩:=d1
 obtain ⟨k2,hk2⟩:=e1
 refine ⟨max k1 k2,fun n hn=>?_⟩
 have:=hk1 n (by omega) (fun q=>ref1_Parse_L1 n w (T,0,0) q.1 q.2.1 q.2.2.1 q.2.2.2.1 q.2.2.2.2 (fun l29 i30 b31 i32 l33=>bif b31 then (idx T i32).bind fun x49=>some (⟨[],[]⟩,x49.At,2) else some (⟨q.2.2.2.2,l33⟩,0,0)) q.1 q.2.1 q.2.2.1 q.2.2.2.1 [])
 exact this.trans (hk2 n (by omega))
theorem okDecls_rd {D : List Decl} (h : okDecls D) : (∀ d ∈ D,rdD d ∧ rdD2 d) ∧ D.length = 8:=by
 obtain ⟨k0,k1,r,hk,r0,r1,rfl⟩:=h
 refine ⟨fun d hd=>?_,rfl⟩
 have nk : ∀ w ∈ [k_x,k_y,k_z,k_a,k_t,k_c,k_d,k_l,k_k,k_m],NoKw w:=noKw5
 simp only [List.mem_cons,List.not_mem_nil,or_false] at hd
 have five : ∀ (k n : Int) (w : ByteArray),1 ≤ k → k ≤ 6 → 0 ≤ n → n ≤ 3 → (k ≠ 6 → n = 0) → w.size = 1 ∧ Ch w [(1,w,0)] → w ∈ [k_x,k_y,k_z,k_a,k_t,k_c,k_d,k_l,k_k,k_m] → rdD ⟨k,w,n,c0⟩ ∧ rdD2 ⟨k,w,n,c0⟩ :=
  fun k n w h1 h2 h3 h4 h5 h6 h7=>⟨⟨h1,h2,h3,by show n ≤ 9; omega,h6.1,h6.2⟩,⟨h1,h2,h3,h4,h5,nk w h7⟩⟩
 rcases hd with rfl | rfl | rfl | rfl | rfl | rfl | rfl | rfl
 ·exact five k0 0 k_x (by omega) (by omega) (by omega) (by omega) (by omega) (nm5 k_x (by simp)) (by simp)
 ·exact five k1 0 k_y (by omega) (by omega) (by omega) (by omega) (by omega) (nm5 k_y (by simp)) (by simp)
 ·exact five 2 0 k_z (by omega) (by omega) (by omega) (by omega) (by omega) (nm5 k_z (by simp)) (by simp)
 ·exact five 3 0 k_a (by omega) (by omega) (by omega) (by omega) (by omega) (nm5 k_a (by simp)) (by simp)
 ·exact five 4 0 k_t (by omega) (by omega) (by omega) (by omega) (by omega) (nm5 k_t (by simp)) (by simp)
 ·exact five 5 0 k_m (by omega) (by omega) (by omega) (by omega) (by omega) nmm (by simp)
 ·exact five 6 r k_c (by omega) (by omega) (by omega) (by omega) (by omega) (nm2 k_c (by simp)) (by simp)
 ·exact five 6 0 k_d (by omega) (by omega) (by omega) (by omega) (by omega) (nm2 k_d (by simp)) (by simp)
theorem wtT_le : ∀ ts : List (List Stmt),okTs ts → wtT ts ≤ 2567 * ts.length
 | [],_=>by simp [wtT]
 | t :: r,h=>by
  have:=wtT_le r fun y hy=>h y (by simp [hy])
  have:=(h t (by simp)).2
  rw [wtT,List.length_cons]; omega
end Go.Su.Ytfmgnboplbgniaa
namespace Go.Su.Ytfmgnboplbgniaa
open Go.Mx Go.Proofs
set_option linter.unusedVariables false
set_option linter.unusedSimpArgs false
set_option maxHeartbeats 4000000
set_option maxRecDepth 1000000 in
theorem known8_ev : Ev (fun n=>law8_known n) true:=by
 refine ⟨100,fun n hn=>?_⟩
 obtain ⟨k,rfl⟩ : ∃ k,n = k + 100:=⟨n - 100,by omega⟩
 have : ∀ k,law8_known (k + 100) = some true:=by intro k; kernel_rfl
 exact this k
abbrev NU (w : ByteArray) : Prop:=bytesEq k_unheard w = false
theorem bytesEq_sym (a b : ByteArray) : bytesEq a b = bytesEq b a:=by
 rw [bytesEq_eq,bytesEq_eq]; exact BEq.comm
theorem nu_five : ∀ w ∈ [k_x,k_y,k_z,k_a,k_t],NU w:=by
 intro w hw
 simp only [List.mem_cons,List.not_mem_nil,or_false] at hw
 rcases hw with rfl | rfl | rfl | rfl | rfl <;> rfl
theorem nu_nm : ∀ (d : Nat) (e : Expr),okE d e → ∀ w ∈ nmE e,NU w
 | 0,_,h,_,_=>h.elim
 | d + 1,⟨k,m,v,l⟩,h,w,hw=>by
  rw [nmE] at hw
  rcases h with ⟨h1,h2,h3,h4,h5⟩ | ⟨h1,h2,h3,h5⟩ | ⟨h1,h2,h3,x,h5,h6⟩ | ⟨h1,h1',h2,h3,x,y,h5,h6,h7⟩ <;> simp only at h1 h5 <;> subst h5
  ·rw [if_neg (by omega)] at hw
   simp [nmEl] at hw
  ·rw [if_pos h1] at hw
   simp [nmEl] at hw
   subst hw
   exact nu_five w h3
  ·rw [if_neg (by omega),nmEl,nmEl] at hw
   exact nu_nm d x h6 w (by simpa using hw)
  ·rw [if_neg (by omega),nmEl,nmEl,nmEl,List.nil_append,List.append_nil,List.mem_append] at hw
   rcases hw with hw | hw
   ·exact nu_nm d x h6 w hw
   ·exact nu_nm d y h7 w hw
def NUs (s : Stmt) : Prop:=(∀ w ∈ tch s,NU w) ∧ NU s.Name
theorem nu_st {d : Nat} {s : Stmt} (h : okS d s) : NUs s:=by
 obtain ⟨k,v,u,mm,e,b,l,a⟩:=s
 obtain ⟨hH,_⟩:=(show okS d ⟨k,v,u,mm,e,b,l,a⟩ from h)
 unfold NUs tch
 cases hH
 case assign =>
  have he : okE 4 e:=by assumption
  have hv : v ∈ [k_x,k_y,k_z,k_a,k_t]:=by assumption
  refine ⟨fun w hw=>?_,nu_five v hv⟩
  simp at hw
  rcases hw with hw | rfl
  ·exact nu_nm 4 e he w hw
  ·exact nu_five _ hv
 case lock=>exact ⟨fun w hw=>by simp at hw,rfl⟩
 case unlock=>exact ⟨fun w hw=>by simp at hw,rfl⟩
 case send =>
  have he : okE 4 e:=by assumption
  have hv : v ∈ [k_c,k_d]:=by assumption
  refine ⟨fun w hw=>nu_nm 4 e he w (by simpa using hw),?_⟩
  simp only [List.mem_cons,List.not_mem_nil,or_false] at hv
  rcases hv with rfl | rfl <;> rfl
 case recv =>
  have hv : v ∈ [k_c,k_d]:=by assumption
  have hu : u ∈ [k_x,k_y,k_z,k_a,k_t]:=by assumption
  refine ⟨fun w hw=>?_,?_⟩
  ·simp at hw
   subst hw; exact nu_five _ hu
  ·simp only [List.mem_cons,List.not_mem_nil,or_false] at hv
   rcases hv with rfl | rfl <;> rfl
 case print =>
  have he : okE 4 e:=by assumption
  exact ⟨fun w hw=>nu_nm 4 e he w (by simpa using hw),rfl⟩
 case cond =>
  have he : okE 4 e:=by assumption
  exact ⟨fun w hw=>nu_nm 4 e he w (by simpa using hw),rfl⟩
 case rep=>exact ⟨fun w hw=>by simp at hw,rfl⟩
 case goto =>
  have hv : v ∈ [k_l,k_k]:=by assumption
  refine ⟨fun w hw=>by simp at hw,?_⟩
  simp only [List.mem_cons,List.not_mem_nil,or_false] at hv
  rcases hv with rfl | rfl <;> rfl
 case label =>
  have hv : v ∈ [k_l,k_k]:=by assumption
  refine ⟨fun w hw=>by simp at hw,?_⟩
  simp only [List.mem_cons,List.not_mem_nil,or_false] at hv
  rcases hv with rfl | rfl <;> rfl
theorem nu_flat : (∀ s : Stmt,∀ d,okS d s → ∀ x ∈ fl1 s,NUs x) ∧ ∀ l : List Stmt,∀ d,okSl d l → ∀ x ∈ flat l,NUs x:=by
 refine stmt_ind ?_ (fun d _ x hx=>by simp [flat] at hx) ?_
 ·intro k w v m e b l a hb hl d h x hx
  rw [fl1,List.mem_cons,List.mem_append] at hx
  have h':=h
  rw [okS] at h'
  rcases hx with rfl | hx | hx
  ·exact nu_st h
  ·exact hb _ h'.2.2.2.1 x hx
  ·exact hl _ h'.2.2.2.2 x hx
 ·intro s r hs hr d h x hx
  rw [okSl] at h
  rw [flat,List.mem_append] at hx
  rcases hx with hx | hx
  ·exact hs d h.1 x hx
  ·exact hr d h.2 x hx
theorem nu_flats : ∀ ts : List (List Stmt),okTs ts → ∀ x ∈ flats ts,NUs x
 | [],_,x,hx=>by simp [flats] at hx
 | t :: r,h,x,hx=>by
  rw [flats,List.mem_append] at hx
  rcases hx with hx | hx
  ·exact nu_flat.2 t 2 (h t (by simp)).1 x hx
  ·exact nu_flats r (fun y hy=>h y (by simp [hy])) x hx
theorem ers_flat : (∀ s : Stmt,(fl1 s).map ers = fl1 (ers s)) ∧ ∀ l : List Stmt,(flat l).map ers = flat (ersL l):=by
 refine stmt_ind ?_ rfl ?_
 ·intro k w v m e b l a hb hl
  rw [ers,fl1,fl1,List.map_cons,List.map_append,hb,hl,ers]
 ·intro s r hs hr
  rw [ersL,flat,flat,List.map_append,hs,hr]
theorem ers_flats : ∀ ts : List (List Stmt),(flats ts).map ers = flats (ts.map ersL)
 | []=>rfl
 | t :: r=>by rw [flats,List.map_append,List.map_cons,flats,ers_flat.2,ers_flats r]
theorem nus_ers (s : Stmt) : NUs (ers s) ↔ NUs s:=by
 obtain ⟨k,v,u,mm,e,b,l,a⟩:=s
 rw [ers]; exact Iff.rfl
theorem nu_read {ts ts' : List (List Stmt)} (h : okTs ts) (he : ts'.map ersL = ts.map ersL) : ∀ x ∈ flats ts',NUs x:=by
 intro x hx
 have h1 : ers x ∈ (flats ts').map ers:=List.mem_map.2 ⟨x,hx,rfl⟩
 rw [ers_flats,he,← ers_flats] at h1
 obtain ⟨y,hy,e⟩:=List.mem_map.1 h1
 rw [← nus_ers,← e,nus_ers]
 exact nu_flats ts h y hy
theorem turned_L0 (p : Prog) (ts : List (List Stmt)) (a1 : List Int) (hl1 : a1.length ≤ 9223372036854775807) : ∀ (rest pre : List Int),a1 = pre ++ rest → ∀ D : List Decl,D.length ≤ 1000 → (∀ d ∈ D,NU d.Name) →
  ∃ D',Ev (fun n=>law8_turned_L0 n p a1 (fun l2=>some ⟨l2,ts⟩) D pre.length) ⟨D',ts⟩ ∧ D'.length = D.length ∧ ∀ d ∈ D',NU d.Name
 | [],pre,e,D,hD,hA=>by
  rw [List.append_nil] at e
  have l1 : decide ((pre.length : Int) < ln a1) = false:=by rw [e]; exact ix_ge _
  exact ⟨D,Ev.step (Ev.of_eq (g:=fun n=>some ⟨D,ts⟩) (fun n=>by simp only [law8_turned_L0,l1,cond_false]) (Ev.ret _)),rfl,hA⟩
 | x :: rest,pre,e,D,hD,hA=>by
  have hpl : pre.length + 1 ≤ a1.length:=by rw [e]; simp
  have l1 : decide ((pre.length : Int) < ln a1) = true:=by rw [e]; exact ix_lt _ _ _
  have l2 : idx a1 (pre.length : Int) = some x:=by rw [e]; exact ix_get _ _ _
  have hw:=ix_wr pre x (by omega)
  by_cases hi : pre.length < D.length
  case neg =>
   have d1 : decide ((pre.length : Int) ≥ ln D) = true:=decide_eq_true (by show (pre.length : Int) ≥ (D.length : Int); omega)
   exact ⟨D,Ev.step (Ev.of_eq (g:=fun n=>some ⟨D,ts⟩) (fun n=>by simp only [law8_turned_L0,l1,l2,cond_true,Option.bind_some,d1]) (Ev.ret _)),rfl,hA⟩
  have d1 : decide ((pre.length : Int) ≥ ln D) = false:=decide_eq_false (by show ¬ (pre.length : Int) ≥ (D.length : Int); omega)
  have p9 : ∀ n,hand_Pick n x 9 = some (x % 9):=fun n=>pick_eq n _ 9 (by omega) (by omega)
  have p6 : ∀ n,hand_Pick n (wr (x.tdiv 9)) 6 = some (wr (x.tdiv 9) % 6):=fun n=>pick_eq n _ 6 (by omega) (by omega)
  have hln : ln D = (D.length : Int):=rfl
  have pD : ∀ n,hand_Pick n (wr (x.tdiv 9)) (ln D) = some (wr (x.tdiv 9) % (D.length : Int)):=fun n=>pick_eq n _ _ (by rw [hln]; omega) (by rw [hln]; omega)
  have q0:=Int.emod_nonneg (wr (x.tdiv 9)) (show (D.length : Int) ≠ 0 by omega)
  have q1:=Int.emod_lt_of_pos (wr (x.tdiv 9)) (show (0 : Int) < (D.length : Int) by omega)
  obtain ⟨q,hq⟩ : ∃ q : Nat,wr (x.tdiv 9) % (D.length : Int) = q:=⟨(wr (x.tdiv 9) % (D.length : Int)).toNat,by omega⟩
  have iD : idx D (pre.length : Int) = some D[pre.length]:=idx_of (by omega) (by rw [Int.toNat_natCast]; exact List.getElem?_eq_getElem hi)
  have hqlt : q < D.length:=by omega
  have iQ : idx D (q : Int) = some D[q]:=idx_of (by omega) (by rw [Int.toNat_natCast]; exact List.getElem?_eq_getElem hqlt)

  have fin : ∀ l8 : List Decl,l8.length = D.length → (∀ d ∈ l8,NU d.Name) → ∃ D',Ev (fun n=>(idx l8 (pre.length : Int)).bind fun x16=>law8_turned_L0 n p a1 (fun l2=>some ⟨l2,ts⟩) (l8.set (pre.length : Int).toNat (Decl.mk x16.Kind x16.Name x16.N (⟨FloatKind.f64.nearest (((pre ++ [x]).length : Nat) : Int),4607182418800017408⟩ : Cx))) ((pre ++ [x]).length)) ⟨D',ts⟩ ∧ D'.length = D.length ∧ ∀ d ∈ D',NU d.Name:=by
   intro l8 hl8 hA8
   have i8 : idx l8 (pre.length : Int) = some (l8[pre.length]'(by omega)):=idx_of (by omega) (by rw [Int.toNat_natCast]; exact List.getElem?_eq_getElem (by omega))
   obtain ⟨D',m1,m2,m3⟩:=turned_L0 p ts a1 hl1 rest (pre ++ [x]) (by rw [e]; exact ix_cons _ _ _) (l8.set pre.length (Decl.mk (l8[pre.length]'(by omega)).Kind (l8[pre.length]'(by omega)).Name (l8[pre.length]'(by omega)).N (⟨FloatKind.f64.nearest (((pre ++ [x]).length : Nat) : Int),4607182418800017408⟩ : Cx))) (by simp; omega) (fun d hd=>by
    rcases List.mem_or_eq_of_mem_set hd with h | h
    ·exact hA8 d h
    ·subst h; exact hA8 (l8[pre.length]'(by omega)) (List.getElem_mem _))
   exact ⟨D',Ev.opt i8 m1,by rw [m2]; simp [hl8],m3⟩
  have lift : ∀ (G : Nat → Option Prog),(∃ D',Ev G ⟨D',ts⟩ ∧ D'.length = D.length ∧ ∀ d ∈ D',NU d.Name) → (∀ n,law8_turned_L0 (n + 1) p a1 (fun l2=>some ⟨l2,ts⟩) D pre.length = G n) → ∃ D',Ev (fun n=>law8_turned_L0 n p a1 (fun l2=>some ⟨l2,ts⟩) D pre.length) ⟨D',ts⟩ ∧ D'.length = D.length ∧ ∀ d ∈ D',NU d.Name :=
   fun G ⟨D',k1,k2⟩ hG=>⟨D',Ev.step (Ev.of_eq hG k1),k2⟩
  have setA : ∀ d' : Decl,NU d'.Name → ∀ d ∈ D.set (pre.length : Int).toNat d',NU d.Name:=fun d' h d hd=>by
   rcases List.mem_or_eq_of_mem_set hd with h' | h'
   ·exact hA d h'
   ·subst h'; exact h
  have hAi:=hA _ (List.getElem_mem hi)
  cases c6 : (x % 9 == 6)
  ·cases c7 : (x % 9 == 7)
   ·cases c8 : (x % 9 == 8)
    ·refine lift _ (fin D rfl hA) fun n=>?_
     simp only [law8_turned_L0,l1,l2,cond_true,cond_false,Option.bind_some,d1,p9,jn,c6,c7,c8,hw]
    ·refine lift _ (fin (D.set (pre.length : Int).toNat ⟨D[pre.length].Kind,k_other,D[pre.length].N,D[pre.length].At⟩) (by simp) (setA _ rfl)) fun n=>?_
     simp only [law8_turned_L0,l1,l2,cond_true,cond_false,Option.bind_some,d1,p9,jn,c6,c7,c8,hw,iD]
   ·refine lift _ (fin (D.set (pre.length : Int).toNat ⟨D[pre.length].Kind,D[q].Name,D[pre.length].N,D[pre.length].At⟩) (by simp) (setA _ (hA D[q] (List.getElem_mem hqlt)))) fun n=>?_
    simp only [law8_turned_L0,l1,l2,cond_true,cond_false,Option.bind_some,d1,p9,jn,c6,c7,hw,pD,hq,iQ,iD]
  ·refine lift _ (fin (D.set (pre.length : Int).toNat ⟨wr (1 + wr (x.tdiv 9) % 6),D[pre.length].Name,D[pre.length].N,D[pre.length].At⟩) (by simp) (setA _ hAi)) fun n=>?_
   simp only [law8_turned_L0,l1,l2,cond_true,cond_false,Option.bind_some,d1,p9,jn,c6,hw,p6,iD]
theorem roomDc (a b : Nat) (h : a + b ≤ 100000) : room s_Decl.i1.bytes a b = true:=room_of (by
 have : s_Decl.i1.bytes = 48:=rfl
 rw [this]; omega)
theorem turned_ev (D : List Decl) (ts : List (List Stmt)) (a1 : List Int) (hl1 : a1.length ≤ 9223372036854775807) (hD : D.length ≤ 1000) (hA : ∀ d ∈ D,NU d.Name) : ∃ D',Ev (fun n=>law8_turned n ⟨D,ts⟩ a1) ⟨D',ts⟩ ∧ D'.length = D.length ∧ ∀ d ∈ D',NU d.Name:=by
 obtain ⟨D',m1,m2⟩:=turned_L0 ⟨D,ts⟩ ts a1 hl1 a1 [] rfl D hD hA
 exact ⟨D',Ev.of_eq (fun n=>by simp only [law8_turned,roomDc ([] : List Decl).length D.length (by simp; omega),cond_true,jn,List.nil_append]; rfl) m1,m2⟩
theorem all_flats (q : Stmt → Bool) : ∀ ts : List (List Stmt),(flats ts).all q = ts.all fun t=>(flats [t]).all q
 | []=>rfl
 | t :: r=>by rw [flats,List.all_append,List.all_cons,← all_flats q r,flats,flats,List.append_nil]
theorem zz : ((FloatKind.f64.format.order 4636666922610458624 4636666922610458624 == some .eq) && (FloatKind.f64.format.order 4621256167635550208 4621256167635550208 == some .eq)) = true:=by kernel_rfl
theorem nw_L0 (a0 : Int) (a1 a2 : List Act) (a3 : List Int) (a4 : Int) (r1 : Prog) (r2 : ByteArray) (r3 : Prog) (D : List Decl) (ts : List (List Stmt)) (hD : D.length = 8) (hN : ∀ d ∈ D,NU d.Name) (hS : ∀ x ∈ flats ts,NUs x) (hz : szT ts ≤ 40000) (hn : ts ≠ []) :
  ∀ (l pre : List (List Stmt)) (b : Bool),ts = pre ++ l → b = (pre.all fun t=>(chk D (flats [t])).2 == 0) → Ev (fun n=>law8_NamesWhole_L0 n a0 a1 a2 a3 a4 r1 r2 r3 ⟨D,ts⟩ (chk D (flats ts)) b pre.length) true
 | t :: l,pre,b,e,hb=>by
  have hl:=len_T ts
  have hp : pre.length + 1 ≤ 40000:=by have:=congrArg List.length e; simp at this; omega
  have l1 : decide ((pre.length : Int) < ln ts) = true:=by rw [e]; exact ix_lt _ _ _
  have hw:=ix_wr pre t (by omega)
  have hs : sub ts (pre.length : Int) ((pre ++ [t]).length : Int) = some [t]:=by
   have:=sub_of (l:=ts) (a:=pre.length) (b:=(pre ++ [t]).length) (by simp) (by rw [e]; simp)
   rw [this,e]
   simp
  have hzt : szT [t] ≤ 40000:=by
   have : ∀ us : List (List Stmt),t ∈ us → szT [t] ≤ szT us:=by
    intro us
    induction us with
    | nil=>intro h; cases h
    | cons u us ih =>
     intro h
     rcases List.mem_cons.1 h with rfl | h
     ·simp only [szT]; omega
     ·have:=ih h; simp only [szT] at this ⊢; omega
   have:=this ts (by rw [e]; simp)
   omega
  have kc:=check_ev D [t] (by omega) (by omega)
  have nx:=nw_L0 a0 a1 a2 a3 a4 r1 r2 r3 D ts hD hN hS hz hn l (pre ++ [t]) (b && ((chk D (flats [t])).2 == 0)) (by rw [e]; exact ix_cons _ _ _) (by rw [List.all_append,hb,List.all_cons,List.all_nil,Bool.and_true])
  refine Ev.step (Ev.of_eq (g:=fun n=>(names_Check n ⟨D,[t]⟩).bind fun r11=>law8_NamesWhole_L0 n a0 a1 a2 a3 a4 r1 r2 r3 ⟨D,ts⟩ (chk D (flats ts)) (b && (r11.2 == 0)) ((pre ++ [t]).length)) (fun n=>?_) (Ev.bind kc nx))
  cases b <;> simp only [law8_NamesWhole_L0,l1,cond_true,cond_false,jn,hw,hs,Option.bind_some,Bool.true_and,Bool.false_and]
 | [],pre,b,e,hb=>by
  rw [List.append_nil] at e
  subst e
  have hl:=len_T ts
  have l1 : decide ((ts.length : Int) < ln ts) = false:=ix_ge _
  have p6 : ∀ n,hand_Pick n a4 6 = some (a4 % 6):=fun n=>pick_eq n _ 6 (by omega) (by omega)
  have hln : ln D = 8:=by show ((D.length : Nat) : Int) = 8; rw [hD]; rfl
  have p8 : ∀ n,hand_Pick n a4 (ln D) = some (a4 % 8):=fun n=>by rw [hln]; exact pick_eq n _ 8 (by omega) (by omega)
  obtain ⟨q,hq⟩ : ∃ q : Nat,a4 % 8 = (q : Int):=⟨(a4 % 8).toNat,by omega⟩
  have hq8 : q < D.length:=by omega
  have iQ : idx D (a4 % 8) = some D[q]:=by rw [hq]; exact idx_of (by omega) (by rw [Int.toNat_natCast]; exact List.getElem?_eq_getElem hq8)
  have rm0 : room s_Decl.i1.bytes ([] : List Decl).length D.length = true:=roomDc _ _ (by simp; omega)
  have rm1 : ∀ d : Decl,room s_Decl.i1.bytes D.length [d].length = true:=fun d=>roomDc _ _ (by simp; omega)

  have m1:=check_ev (D ++ [⟨wr (1 + a4 % 6),k_unheard,0,c0⟩]) ts (by simp; omega) (by omega)
  have m2:=check_ev (D ++ [⟨wr (1 + a4 % 6),D[q].Name,0,⟨4636666922610458624,4621256167635550208⟩⟩]) ts (by simp; omega) (by omega)
  have e1 : (b == ((chk D (flats ts)).2 == 0)) = true:=by
   rw [hb]
   have : (ts.all fun t=>(chk D (flats [t])).2 == 0) = ((chk D (flats ts)).2 == 0):=by
    rw [chk_ok,all_flats]
    have : (fun t=>(chk D (flats [t])).2 == 0) = fun t=>(!dup D 0 D && (flats [t]).all (rgt D)):=by funext t; exact chk_ok _ _
    rw [this]
    cases dup D 0 D
    ·simp
    ·cases ts with
     | nil=>exact absurd rfl hn
     | cons t r=>simp
   rw [this]; simp
  have e2 : ((chk (D ++ [⟨wr (1 + a4 % 6),k_unheard,0,c0⟩]) (flats ts)).2 == (chk D (flats ts)).2) = true:=by
   have h : ((chk (D ++ [⟨wr (1 + a4 % 6),k_unheard,0,c0⟩]) (flats ts)).2 == 0) = ((chk D (flats ts)).2 == 0):=by
    rw [chk_ok,chk_ok,dup_more]
    have : fnd 0 D k_unheard = -1:=fnd_none D 0 k_unheard fun x hx=>by rw [bytesEq_sym]; exact hN x hx
    simp only [this]
    congr 1
    ·simp
    ·rw [Bool.eq_iff_iff,List.all_eq_true,List.all_eq_true]
     exact forall_congr' fun s=>forall_congr' fun hs=>by rw [rgt_app D _ s (hS s hs).1 (hS s hs).2]
   rcases chk_03 (D ++ [⟨wr (1 + a4 % 6),k_unheard,0,c0⟩]) (flats ts) with h1 | h1 <;> rcases chk_03 D (flats ts) with h2 | h2 <;> rw [h1,h2] at h ⊢ <;> first | rfl | (exfalso; revert h; decide)

  have hdup : dup (D ++ [⟨wr (1 + a4 % 6),D[q].Name,0,⟨4636666922610458624,4621256167635550208⟩⟩]) 0 (D ++ [⟨wr (1 + a4 % 6),D[q].Name,0,⟨4636666922610458624,4621256167635550208⟩⟩]) = true:=by
   rw [dup_more]
   have h1:=fnd_mem D 0 D[q] (List.getElem_mem hq8)
   have h2:=fnd_lt D 0 D[q].Name
   simp only
   rw [decide_eq_true ⟨h1,by simpa using h2⟩,Bool.or_true]
  have e3 : (chk (D ++ [⟨wr (1 + a4 % 6),D[q].Name,0,⟨4636666922610458624,4621256167635550208⟩⟩]) (flats ts)).2 = 3:=(chkD_dup _ (flats ts) _ 0).1 hdup
  have e4 : ((chk D (flats ts)).2 == 0) = true → (chk (D ++ [⟨wr (1 + a4 % 6),D[q].Name,0,⟨4636666922610458624,4621256167635550208⟩⟩]) (flats ts)).1 = ⟨4636666922610458624,4621256167635550208⟩:=by
   intro h
   rw [chk_ok,Bool.and_eq_true] at h
   have nd : dup D 0 D = false:=by simpa using h.1
   have gen : ∀ (l : List Decl) (i : Nat),dup (D ++ [⟨wr (1 + a4 % 6),D[q].Name,0,⟨4636666922610458624,4621256167635550208⟩⟩]) i l = false → chkD (D ++ [⟨wr (1 + a4 % 6),D[q].Name,0,⟨4636666922610458624,4621256167635550208⟩⟩]) (flats ts) i (l ++ [⟨wr (1 + a4 % 6),D[q].Name,0,⟨4636666922610458624,4621256167635550208⟩⟩]) = chkD (D ++ [⟨wr (1 + a4 % 6),D[q].Name,0,⟨4636666922610458624,4621256167635550208⟩⟩]) (flats ts) (i + l.length) [⟨wr (1 + a4 % 6),D[q].Name,0,⟨4636666922610458624,4621256167635550208⟩⟩]:=by
    intro l
    induction l with
    | nil=>intro i _; rfl
    | cons x l ih =>
     intro i hd
     rw [dup,Bool.or_eq_false_iff] at hd
     rw [List.cons_append,chkD,hd.1,cond_false,ih (i + 1) hd.2,List.length_cons,show i + 1 + l.length = i + (l.length + 1) by omega]
   have nd2 : dup (D ++ [⟨wr (1 + a4 % 6),D[q].Name,0,⟨4636666922610458624,4621256167635550208⟩⟩]) 0 D = false:=by
    rw [dup_congr D _ D 0 fun x hx=>(fnd_app _ x.Name D 0).1 (fnd_mem D 0 x hx)]; exact nd
   rw [chk,gen D 0 nd2,chkD]
   have h1:=fnd_mem D 0 D[q] (List.getElem_mem hq8)
   have h2:=fnd_lt D 0 D[q].Name
   have h3:=(fnd_app ⟨wr (1 + a4 % 6),D[q].Name,0,⟨4636666922610458624,4621256167635550208⟩⟩ D[q].Name D 0).1 h1
   simp only [h3]
   rw [decide_eq_true (by simpa using h2)]; rfl
  refine Ev.step (Ev.of_eq (g:=fun n=>(names_Check n ⟨D ++ [⟨wr (1 + a4 % 6),k_unheard,0,c0⟩],ts⟩).bind fun r15=>(names_Check n ⟨D ++ [⟨wr (1 + a4 % 6),D[q].Name,0,⟨4636666922610458624,4621256167635550208⟩⟩],ts⟩).bind fun r21=>(law8_known n).bind fun r24 =>
   bif r24 then bif (((chk D (flats ts)).2 == 0) == b) then bif (r15.2 == (chk D (flats ts)).2) then bif (r21.2 == 3) then bif ((chk D (flats ts)).2 != 0) then some true else some ((FloatKind.f64.format.order r21.1.re 4636666922610458624 == some .eq) && (FloatKind.f64.format.order r21.1.im 4621256167635550208 == some .eq)) else some false else some false else some false else some false) (fun n=>?_) (Ev.bind m1 (Ev.bind m2 (Ev.bind known8_ev ?_))))
  ·simp only [law8_NamesWhole_L0,l1,cond_false,cond_true,rm0,rm1,p6,p8,Option.bind_some,iQ,jn,List.nil_append]
  ·have e1' : (((chk D (flats ts)).2 == 0) == b) = true:=by
    have:=eq_of_beq e1
    rw [this]; simp
   have e3' : ((chk (D ++ [⟨wr (1 + a4 % 6),D[q].Name,0,⟨4636666922610458624,4621256167635550208⟩⟩]) (flats ts)).2 == 3) = true:=by rw [e3]; rfl
   simp only [cond_true,e1',e2,e3']
   cases h0 : ((chk D (flats ts)).2 == 0)
   ·simp only [bne,h0,Bool.not_false,cond_true]; exact Ev.ret _
   ·simp only [bne,h0,Bool.not_true,cond_false,e4 h0,zz]; exact Ev.ret _
theorem law8_NamesWhole_true (a0 : Int) (a1 a2 : List Act) (a3 : List Int) (a4 : Int) (h0 : okInt .i64 a0) (h1 : okActs a1) (h2 : okActs a2) (h3 : okInts a3) (h4 : okInt .i64 a4) : ∃ n,law8_NamesWhole n a0 a1 a2 a3 a4 = some true:=by
 obtain ⟨D0,ts0,hp,oD,ots,hlen⟩:=prog2_ev a0 a1 a2 5 (by omega)
 obtain ⟨rD,lD⟩:=okDecls_rd oD
 have hwt:=wtT_le ts0 ots
 obtain ⟨w,D1,ts1,s1,s2,s3,s4⟩:=round_ev D0 ts0 rD ots (by omega) (by omega) (by omega) (by omega)
 obtain ⟨p',i',e',hpar',okp⟩:=parse_ev w
 have hu:=Ev.unique hpar' s2
 rw [Prod.mk.injEq] at hu
 rw [hu.1] at okp
 obtain ⟨okD1,okn1,okz1,okw1⟩:=okp
 simp only at okD1 okn1 okz1 okw1
 have hmax : maxLen = 9223372036854775807:=rfl
 have h3l:=h3.1
 rw [hmax] at h3l
 have lD1 : D1.length = 8:=by have:=congrArg List.length s3; simp at this; omega
 have hN1 : ∀ d ∈ D1,NU d.Name:=by
  intro d hd
  have m1 : erd d ∈ D1.map erd:=List.mem_map.2 ⟨d,hd,rfl⟩
  rw [s3] at m1
  obtain ⟨y,hy,e⟩:=List.mem_map.1 m1
  have : d.Name = y.Name:=(Decl.mk.inj e).2.1.symm
  rw [this]
  obtain ⟨k0,k1,r,_,_,_,rfl⟩:=oD
  simp only [List.mem_cons,List.not_mem_nil,or_false] at hy
  rcases hy with rfl | rfl | rfl | rfl | rfl | rfl | rfl | rfl <;> rfl
 obtain ⟨D2,t1,t2,t3⟩:=turned_ev D1 ts1 a3 h3l (by omega) hN1
 have hS:=nu_read ots s4
 have c1:=check_ev D2 ts1 (by omega) (by omega)
 have hread : Ev (fun n=>law8_read n w) ⟨D1,ts1⟩:=Ev.of_eq (g:=fun n=>(ref1_Parse n w).bind fun r1=>some r1.1) (fun n=>by simp only [law8_read]) (Ev.bind s2 (Ev.ret _))
 have hne : ts1 ≠ []:=by
  intro h
  have:=congrArg List.length s4
  rw [h] at this
  simp at this; omega
 refine Ev.get ?_
 refine Ev.of_eq (g:=fun n=>(hand_Prog n a0 a1 a2 [] 5).bind fun r1=>(ref1_Show n r1).bind fun r2=>(law8_read n r2).bind fun r3=>(law8_turned n r3 a3).bind fun r4=>(names_Check n r4).bind fun r5=>law8_NamesWhole_L0 n a0 a1 a2 a3 a4 r1 r2 r3 r4 r5 true 0) (fun n=>by simp only [law8_NamesWhole]) ?_
 exact Ev.bind hp (Ev.bind s1 (Ev.bind hread (Ev.bind t1 (Ev.bind c1 (nw_L0 a0 a1 a2 a3 a4 ⟨D0,ts0⟩ w ⟨D1,ts1⟩ D2 ts1 (by omega) t3 hS okz1 hne ts1 [] true rfl rfl)))))
end Go.Su.Ytfmgnboplbgniaa
