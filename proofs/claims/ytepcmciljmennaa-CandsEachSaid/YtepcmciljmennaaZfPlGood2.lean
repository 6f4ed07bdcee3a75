/-
  Programs of two threads, good ones; printed and read.
-/
import Derived.Test.YtepcmciljmennaaZfPlShowT
import Derived.Test.YtepcmciljmennaaZfDxF
import Derived.Test.YtepcmciljmennaaZfPlCostC
import Derived.Test.YtepcmciljmennaaZfPlGood
namespace Go.Su.Ytepcmciljmennaa
open Go.Mx Go.Proofs
set_option linter.unusedVariables false
set_option linter.unusedSimpArgs false
set_option maxHeartbeats 4000000
theorem bytesEq_refl (w : ByteArray) : bytesEq w w = true:=by rw [bytesEq_eq]; exact BEq.rfl
def Vw (T : List Token) (at_ : Nat) (ts : List Key) : Prop:=(T.drop at_).map ky = ts
theorem Vw.cons {T : List Token} {at_ : Nat} {k : Key} {r : List Key} (h : Vw T at_ (k :: r)) : (∃ p : Int,idx T (at_ : Int) = some ⟨k.1,k.2.1,k.2.2,p⟩) ∧ at_ < T.length ∧ Vw T (at_ + 1) r:=by
 unfold Vw at h
 cases e : T.drop at_ with
 | nil=>rw [e] at h; simp at h
 | cons t q =>
  rw [e,List.map_cons,List.cons.injEq] at h
  have hl : at_ < T.length:=by
   rcases Nat.lt_or_ge at_ T.length with z | z
   ·exact z
   ·rw [List.drop_eq_nil_of_le z] at e; cases e
  have ht : T[at_]? = some t:=by rw [← List.head?_drop,e]; rfl
  obtain ⟨a,b,c,d⟩:=t
  obtain ⟨h1,h2⟩:=h
  refine ⟨⟨d,idx_of (by omega) (by rw [Int.toNat_natCast,ht,← h1]; rfl)⟩,hl,?_⟩
  unfold Vw
  rw [← List.tail_drop,e]; exact h2
theorem Vw.app {T : List Token} : ∀ {a : List Key} {at_ : Nat} {r : List Key},Vw T at_ (a ++ r) → Vw T (at_ + a.length) r
 | [],at_,r,h=>h
 | k :: a,at_,r,h=>by
  have:=Vw.app (a:=a) (at_:=at_ + 1) (r:=r) (Vw.cons (by simpa using h)).2.2
  rw [show at_ + (k :: a).length = at_ + 1 + a.length by simp; omega]; exact this
def isS (k : Key) (w : ByteArray) : Bool:=bif (k.1 == 3) then bytesEq k.2.1 w else false
section
variable {T : List Token}
theorem sign_k {at_ : Nat} {k : Key} {r : List Key} (h : Vw T at_ (k :: r)) (b : Int) (w : ByteArray) (n : Nat) : ref1_Reader_sign n ⟨T,(at_ : Int),false,b⟩ w = some (isS k w):=by
 obtain ⟨⟨p,h1⟩,_,_⟩:=h.cons
 unfold isS
 cases e : (k.1 == 3) <;> simp only [ref1_Reader_sign,jn,Bool.not_false,cond_true,cond_false,h1,Option.bind_some,e]
theorem word_k {at_ : Nat} {k : Key} {r : List Key} (h : Vw T at_ (k :: r)) (b : Int) (w : ByteArray) (n : Nat) : ref1_Reader_word n ⟨T,(at_ : Int),false,b⟩ w = some (bif (k.1 == 1) then bytesEq k.2.1 w else false):=by
 obtain ⟨⟨p,h1⟩,_,_⟩:=h.cons
 cases e : (k.1 == 1) <;> simp only [ref1_Reader_word,jn,Bool.not_false,cond_true,cond_false,h1,Option.bind_some,e]
theorem isS_self (w : ByteArray) : isS (3,w,0) w = true:=bytesEq_refl w
theorem must_k (g : GoodT T) {at_ : Nat} {w : ByteArray} {r : List Key} (h : Vw T at_ ((3,w,0) :: r)) (b : Int) (n : Nat) : ref1_Reader_must n ⟨T,(at_ : Int),false,b⟩ w = some ⟨T,((at_ + 1 : Nat) : Int),false,b⟩:=by
 have h1:=sign_k h b w n
 rw [isS_self] at h1
 simp only [ref1_Reader_must,h1,Option.bind_some,Bool.not_true,cond_false,wrT g h.cons.2.1]
def NoKw (w : ByteArray) : Prop:=Ev (fun n=>ref1_Keyword n w) false
theorem name_k (g : GoodT T) {at_ : Nat} {w : ByteArray} {r : List Key} (h : Vw T at_ ((1,w,0) :: r)) (hw : NoKw w) (b : Int) : Ev (fun n=>ref1_Reader_name n ⟨T,(at_ : Int),false,b⟩) (w,⟨T,((at_ + 1 : Nat) : Int),false,b⟩):=by
 obtain ⟨⟨p,h1⟩,h2,_⟩:=h.cons
 have e : wr (((at_ + 1 : Nat) : Int) - 1) = (at_ : Int):=by have:=g.len; rw [wr_of (by omega)]; omega
 refine Ev.of_eq (g:=fun n=>(ref1_Keyword n w).bind fun r5=>bif r5 then (ref1_Reader_fail n ⟨T,(at_ : Int),false,b⟩).bind fun r6=>some (b0,r6) else some (w,⟨T,((at_ + 1 : Nat) : Int),false,b⟩)) (fun n=>?_) (Ev.bind hw (Ev.no rfl (Ev.ret _)))
 simp only [ref1_Reader_name,jn,cond_false,h1,Option.bind_some,wrT g h2,e]
 rfl
theorem number_k (g : GoodT T) {at_ : Nat} {w : ByteArray} {m most : Int} {r : List Key} (h : Vw T at_ ((2,w,m) :: r)) (hm : m ≤ most) (b : Int) (n : Nat) : ref1_Reader_number n ⟨T,(at_ : Int),false,b⟩ most = some (m,⟨T,((at_ + 1 : Nat) : Int),false,b⟩):=by
 obtain ⟨⟨p,h1⟩,h2,_⟩:=h.cons
 have e : wr (((at_ + 1 : Nat) : Int) - 1) = (at_ : Int):=by have:=g.len; rw [wr_of (by omega)]; omega
 have d : decide (m > most) = false:=decide_eq_false (by omega)
 simp only [ref1_Reader_number,jn,cond_false,h1,Option.bind_some,d,wrT g h2,e]
 rfl
def Nx (ws : List ByteArray) (r : List Key) : Prop:=∃ k r',r = k :: r' ∧ ∀ w ∈ ws,isS k w = false
abbrev J0 : ByteArray → Expr → Reader → Option (Expr × Reader):=fun _ v v4=>some (v,v4)
theorem term_done {at_ : Nat} {r : List Key} (h : Vw T at_ r) (hr : Nx [x_2a,x_2f,x_25] r) (b : Int) (a0 : Reader) (d : Int) (r1 : Expr × Reader) (e : Expr) : Ev (fun n=>ref1_Reader_term_L0 n a0 d r1 J0 ⟨T,(at_ : Int),false,b⟩ b0 e) (e,⟨T,(at_ : Int),false,b⟩):=by
 obtain ⟨k,r',rfl,hk⟩:=hr
 refine Ev.step (Ev.of_eq (g:=fun n=>some (e,⟨T,(at_ : Int),false,b⟩)) (fun n=>?_) (Ev.ret _))
 simp only [ref1_Reader_term_L0,jn,Bool.not_false,cond_true,sign_k h,hk x_2a (by simp),hk x_2f (by simp),hk x_25 (by simp),Option.bind_some,cond_false]
 rfl
theorem sum_done {at_ : Nat} {r : List Key} (h : Vw T at_ r) (hr : Nx [x_2b,x_2d] r) (b : Int) (a0 : Reader) (d : Int) (r1 : Expr × Reader) (e : Expr) : Ev (fun n=>ref1_Reader_sum_L0 n a0 d r1 J0 ⟨T,(at_ : Int),false,b⟩ b0 e) (e,⟨T,(at_ : Int),false,b⟩):=by
 obtain ⟨k,r',rfl,hk⟩:=hr
 refine Ev.step (Ev.of_eq (g:=fun n=>some (e,⟨T,(at_ : Int),false,b⟩)) (fun n=>?_) (Ev.ret _))
 simp only [ref1_Reader_sum_L0,jn,Bool.not_false,cond_true,sign_k h,hk x_2b (by simp),hk x_2d (by simp),Option.bind_some,cond_false]
 rfl
def RdF (T : List Token) (e : Expr) (ts : List Key) (m : Nat) : Prop:=∀ (at_ : Nat) (r : List Key) (d : Nat) (b : Int),Vw T at_ (ts ++ r) → d + m ≤ 10 → Ev (fun n=>ref1_Reader_factor n ⟨T,(at_ : Int),false,b⟩ (d : Int)) (e,⟨T,((at_ + ts.length : Nat) : Int),false,b⟩)
def RdT (T : List Token) (e : Expr) (ts : List Key) (m : Nat) : Prop:=∀ (at_ : Nat) (r : List Key) (d : Nat) (b : Int) (X : Expr × Reader),Vw T at_ (ts ++ r) → d + m ≤ 10 →
 (∀ a0 r1,Ev (fun n=>ref1_Reader_term_L0 n a0 (d : Int) r1 J0 ⟨T,((at_ + ts.length : Nat) : Int),false,b⟩ b0 e) X) → Ev (fun n=>ref1_Reader_term n ⟨T,(at_ : Int),false,b⟩ (d : Int)) X
def RdS (T : List Token) (e : Expr) (ts : List Key) (m : Nat) : Prop:=∀ (at_ : Nat) (r : List Key) (d : Nat) (b : Int) (X : Expr × Reader),Vw T at_ (ts ++ r) → Nx [x_2a,x_2f,x_25] r → d + m ≤ 10 →
 (∀ a0 r1,Ev (fun n=>ref1_Reader_sum_L0 n a0 (d : Int) r1 J0 ⟨T,((at_ + ts.length : Nat) : Int),false,b⟩ b0 e) X) → Ev (fun n=>ref1_Reader_sum n ⟨T,(at_ : Int),false,b⟩ (d : Int)) X
abbrev allOps : List ByteArray:=[x_2a,x_2f,x_25,x_2b,x_2d,x_3c,x_3d3d]
def RdE (T : List Token) (e : Expr) (ts : List Key) (m : Nat) : Prop:=∀ (at_ : Nat) (r : List Key) (d : Nat) (b : Int),Vw T at_ (ts ++ r) → Nx allOps r → d + m ≤ 10 → Ev (fun n=>ref1_Reader_expr n ⟨T,(at_ : Int),false,b⟩ (d : Int)) (e,⟨T,((at_ + ts.length : Nat) : Int),false,b⟩)
theorem Nx.mono {a b : List ByteArray} {r : List Key} (h : Nx b r) (hab : ∀ w ∈ a,w ∈ b) : Nx a r:=by
 obtain ⟨k,r',h1,h2⟩:=h
 exact ⟨k,r',h1,fun w hw=>h2 w (hab w hw)⟩
theorem RdF.toT {e : Expr} {ts : List Key} {m : Nat} (h : RdF T e ts m) : RdT T e ts m:=fun at_ r d b X hv hd hX=>by
 refine Ev.step (Ev.of_eq (g:=fun n=>(ref1_Reader_factor n ⟨T,(at_ : Int),false,b⟩ (d : Int)).bind fun r1=>ref1_Reader_term_L0 n ⟨T,(at_ : Int),false,b⟩ (d : Int) r1 J0 r1.2 b0 r1.1) (fun n=>by simp only [ref1_Reader_term,jn]) (Ev.bind (h at_ r d b hv hd) (hX _ _)))
theorem RdT.full {e : Expr} {ts : List Key} {m : Nat} (h : RdT T e ts m) (at_ : Nat) (r : List Key) (d : Nat) (b : Int) (hv : Vw T at_ (ts ++ r)) (hr : Nx [x_2a,x_2f,x_25] r) (hd : d + m ≤ 10) : Ev (fun n=>ref1_Reader_term n ⟨T,(at_ : Int),false,b⟩ (d : Int)) (e,⟨T,((at_ + ts.length : Nat) : Int),false,b⟩) :=
 h at_ r d b _ hv hd fun a0 r1=>term_done hv.app hr b a0 _ r1 e
theorem RdT.toS {e : Expr} {ts : List Key} {m : Nat} (h : RdT T e ts m) : RdS T e ts m:=fun at_ r d b X hv hr hd hX=>by
 refine Ev.step (Ev.of_eq (g:=fun n=>(ref1_Reader_term n ⟨T,(at_ : Int),false,b⟩ (d : Int)).bind fun r1=>ref1_Reader_sum_L0 n ⟨T,(at_ : Int),false,b⟩ (d : Int) r1 J0 r1.2 b0 r1.1) (fun n=>by simp only [ref1_Reader_sum,jn]) (Ev.bind (h.full at_ r d b hv hr hd) (hX _ _)))
theorem RdS.full {e : Expr} {ts : List Key} {m : Nat} (h : RdS T e ts m) (at_ : Nat) (r : List Key) (d : Nat) (b : Int) (hv : Vw T at_ (ts ++ r)) (hr : Nx [x_2a,x_2f,x_25] r) (hr2 : Nx [x_2b,x_2d] r) (hd : d + m ≤ 10) : Ev (fun n=>ref1_Reader_sum n ⟨T,(at_ : Int),false,b⟩ (d : Int)) (e,⟨T,((at_ + ts.length : Nat) : Int),false,b⟩) :=
 h at_ r d b _ hv hr hd fun a0 r1=>sum_done hv.app hr2 b a0 _ r1 e
theorem RdS.toE {e : Expr} {ts : List Key} {m : Nat} (h : RdS T e ts m) : RdE T e ts m:=fun at_ r d b hv hr hd=>by
 have hs:=h.full at_ r d b hv (hr.mono (by simp)) (hr.mono (by simp)) hd
 obtain ⟨k,r',rfl,hk⟩:=hr
 have hv2:=hv.app
 refine Ev.step (Ev.of_eq (g:=fun n=>(ref1_Reader_sum n ⟨T,(at_ : Int),false,b⟩ (d : Int)).bind fun r1=>(ref1_Reader_sign n r1.2 x_3c).bind fun r5=>bif r5 then (ref1_Reader_sum n (Reader.mk r1.2.T (wr (r1.2.At + 1)) r1.2.Fail r1.2.Bad) (d : Int)).bind fun r7=>(ref1_binary n 9 r1.1 r7.1).bind fun r8=>some (r8,r7.2) else
  (ref1_Reader_sign n r1.2 x_3d3d).bind fun r6=>bif r6 then (ref1_Reader_sum n (Reader.mk r1.2.T (wr (r1.2.At + 1)) r1.2.Fail r1.2.Bad) (d : Int)).bind fun r7=>(ref1_binary n 10 r1.1 r7.1).bind fun r8=>some (r8,r7.2) else some (r1.1,r1.2)) (fun n=>by simp only [ref1_Reader_expr,jn]; rfl) (Ev.bind hs ?_))
 refine Ev.of_eq (g:=fun n=>some (e,⟨T,((at_ + ts.length : Nat) : Int),false,b⟩)) (fun n=>?_) (Ev.ret _)
 simp only [sign_k hv2,hk x_3c (by simp),hk x_3d3d (by simp),Option.bind_some,cond_false]
theorem RdF.mono {e : Expr} {ts : List Key} {m m' : Nat} (h : RdF T e ts m) (hm : m ≤ m') : RdF T e ts m':=fun at_ r d b hv hd=>h at_ r d b hv (by omega)
theorem RdT.mono {e : Expr} {ts : List Key} {m m' : Nat} (h : RdT T e ts m) (hm : m ≤ m') : RdT T e ts m':=fun at_ r d b X hv hd=>h at_ r d b X hv (by omega)
theorem RdS.mono {e : Expr} {ts : List Key} {m m' : Nat} (h : RdS T e ts m) (hm : m ≤ m') : RdS T e ts m':=fun at_ r d b X hv hr hd=>h at_ r d b X hv hr (by omega)
theorem num_k (g : GoodT T) (m : Int) (j : Nat) : RdF T ⟨1,m,b0,[]⟩ [(2,dg m,m)] j:=fun at_ r d b hv hd=>by
 obtain ⟨⟨p,h1⟩,h2,_⟩:=Vw.cons hv
 refine Ev.step (Ev.of_eq (g:=fun n=>some (⟨1,m,b0,[]⟩,⟨T,((at_ + 1 : Nat) : Int),false,b⟩)) (fun n=>?_) (Ev.ret _))
 simp only [ref1_Reader_factor,cond_false,h1,Option.bind_some,wrT g h2]
 rfl
theorem nam_k (g : GoodT T) (w : ByteArray) (hw : NoKw w) (j : Nat) : RdF T ⟨2,0,w,[]⟩ [(1,w,0)] j:=fun at_ r d b hv hd=>by
 obtain ⟨⟨p,h1⟩,h2,_⟩:=Vw.cons hv
 have e2 : ((1 : Int) == 2) = false:=rfl
 have e1 : ((1 : Int) == 1) = true:=rfl
 have hs : ∀ n u,ref1_Reader_sign n ⟨T,(at_ : Int),false,b⟩ u = some false:=fun n u=>sign_k hv b u n
 refine Ev.step (Ev.of_eq (g:=fun n=>(ref1_Keyword n w).bind fun r5=>bif !r5 then some (⟨2,0,w,[]⟩,⟨T,((at_ + 1 : Nat) : Int),false,b⟩) else (ref1_Reader_fail n ⟨T,(at_ : Int),false,b⟩).bind fun r15=>some (⟨0,0,b0,[]⟩,r15)) (fun n=>?_) (Ev.bind hw (Ev.yes rfl (Ev.ret _))))
 simp only [ref1_Reader_factor,cond_false,cond_true,h1,Option.bind_some,wrT g h2,e2,e1,jn,hs]
theorem wr1 (d : Nat) (h : d ≤ 100) : wr ((d : Int) + 1) = ((d + 1 : Nat) : Int):=by rw [wr_of (by omega)]; rfl
theorem neg_k (g : GoodT T) {x : Expr} {tx : List Key} {j : Nat} (hx : RdF T x tx j) (hj : 2 ≤ j) : RdF T ⟨3,0,b0,[x]⟩ ((3,x_2d,0) :: tx) (j + 1):=fun at_ r d b hv hd=>by
 obtain ⟨⟨p,h1⟩,h2,h3⟩:=Vw.cons (r:=tx ++ r) hv
 have e2 : ((3 : Int) == 2) = false:=rfl
 have e1 : ((3 : Int) == 1) = false:=rfl
 have s1 : ∀ n,ref1_Reader_sign n ⟨T,(at_ : Int),false,b⟩ x_2d = some true:=fun n=>sign_k (r:=tx ++ r) hv b x_2d n
 have d8 : decide ((d : Int) < 8) = true:=decide_eq_true (by omega)
 have k1:=hx (at_ + 1) r (d + 1) b h3 (by omega)
 refine Ev.step (Ev.of_eq (g:=fun n=>(ref1_Reader_factor n ⟨T,((at_ + 1 : Nat) : Int),false,b⟩ ((d + 1 : Nat) : Int)).bind fun r9=>some (⟨3,0,b0,[r9.1]⟩,r9.2)) (fun n=>?_) (Ev.bind k1 ?_))
 ·simp only [ref1_Reader_factor,cond_false,cond_true,h1,Option.bind_some,wrT g h2,e2,e1,jn,s1,d8,wr1 d (by omega)]
 ·rw [show at_ + ((3,x_2d,0) :: tx : List Key).length = at_ + 1 + tx.length by simp; omega]
  exact Ev.ret _
theorem par_k (g : GoodT T) {e : Expr} {ts : List Key} {j : Nat} (he : RdE T e ts j) (hj : 2 ≤ j) : RdF T e ((3,x_28,0) :: (ts ++ [(3,x_29,0)])) (j + 1):=fun at_ r d b hv hd=>by
 have hv' : Vw T at_ ((3,x_28,0) :: (ts ++ ((3,x_29,0) :: r))):=by simpa using hv
 obtain ⟨⟨p,h1⟩,h2,h3⟩:=Vw.cons hv'
 have e2 : ((3 : Int) == 2) = false:=rfl
 have e1 : ((3 : Int) == 1) = false:=rfl
 have s1 : ∀ n,ref1_Reader_sign n ⟨T,(at_ : Int),false,b⟩ x_2d = some false:=fun n=>sign_k hv' b x_2d n
 have s2 : ∀ n,ref1_Reader_sign n ⟨T,(at_ : Int),false,b⟩ x_28 = some true:=fun n=>sign_k hv' b x_28 n
 have d8 : decide ((d : Int) < 8) = true:=decide_eq_true (by omega)
 have k1:=he (at_ + 1) ((3,x_29,0) :: r) (d + 1) b h3 ⟨_,_,rfl,by
  intro w hw
  simp only [List.mem_cons,List.not_mem_nil,or_false] at hw
  rcases hw with rfl | rfl | rfl | rfl | rfl | rfl | rfl <;> rfl⟩ (by omega)
 have k2:=must_k g (Vw.app h3) b
 refine Ev.step (Ev.of_eq (g:=fun n=>(ref1_Reader_expr n ⟨T,((at_ + 1 : Nat) : Int),false,b⟩ ((d + 1 : Nat) : Int)).bind fun r13=>(ref1_Reader_must n r13.2 x_29).bind fun r14=>some (r13.1,r14)) (fun n=>?_) (Ev.bind k1 ?_))
 ·simp only [ref1_Reader_factor,cond_false,cond_true,h1,Option.bind_some,wrT g h2,e2,e1,jn,s1,s2,d8,wr1 d (by omega)]
 ·simp only [k2,Option.bind_some]
  rw [show at_ + ((3,x_28,0) :: (ts ++ [(3,x_29,0)]) : List Key).length = at_ + 1 + ts.length + 1 by simp; omega]
  exact Ev.ret _
theorem term_step (g : GoodT T) {at_ : Nat} {k : Int} (h6 : 6 ≤ k) (h8 : k ≤ 8) {x y : Expr} {ty r : List Key} {j d : Nat} {b : Int} (hv : Vw T at_ ((3,sgn k,0) :: (ty ++ r))) (hy : RdF T y ty j) (hd : d + j ≤ 10) {X : Expr × Reader}
  (hX : ∀ a0 r1,Ev (fun n=>ref1_Reader_term_L0 n a0 (d : Int) r1 J0 ⟨T,((at_ + 1 + ty.length : Nat) : Int),false,b⟩ b0 ⟨k,0,b0,[x,y]⟩) X) (a0 : Reader) (r1 : Expr × Reader) : Ev (fun n=>ref1_Reader_term_L0 n a0 (d : Int) r1 J0 ⟨T,(at_ : Int),false,b⟩ b0 x) X:=by
 obtain ⟨_,h2,h3⟩:=Vw.cons hv
 have k1:=hy (at_ + 1) r d b h3 hd
 refine Ev.step (Ev.of_eq (g:=fun n=>(ref1_Reader_factor n ⟨T,((at_ + 1 : Nat) : Int),false,b⟩ (d : Int)).bind fun r15=>ref1_Reader_term_L0 n a0 (d : Int) r1 J0 r15.2 b0 ⟨k,0,b0,[x,r15.1]⟩) (fun n=>?_) (Ev.bind k1 (hX a0 r1)))
 have : k = 6 ∨ k = 7 ∨ k = 8:=by omega
 rcases this with rfl | rfl | rfl
 ·have s1 : ref1_Reader_sign n ⟨T,(at_ : Int),false,b⟩ x_2a = some true:=sign_k hv b x_2a n
  simp only [ref1_Reader_term_L0,jn,Bool.not_false,cond_true,s1,Option.bind_some,wrT g h2,ref1_binary]
  rfl
 ·have s1 : ref1_Reader_sign n ⟨T,(at_ : Int),false,b⟩ x_2a = some false:=sign_k hv b x_2a n
  have s2 : ref1_Reader_sign n ⟨T,(at_ : Int),false,b⟩ x_2f = some true:=sign_k hv b x_2f n
  simp only [ref1_Reader_term_L0,jn,Bool.not_false,cond_true,cond_false,s1,s2,Option.bind_some,wrT g h2,ref1_binary]
  rfl
 ·have s1 : ref1_Reader_sign n ⟨T,(at_ : Int),false,b⟩ x_2a = some false:=sign_k hv b x_2a n
  have s2 : ref1_Reader_sign n ⟨T,(at_ : Int),false,b⟩ x_2f = some false:=sign_k hv b x_2f n
  have s3 : ref1_Reader_sign n ⟨T,(at_ : Int),false,b⟩ x_25 = some true:=sign_k hv b x_25 n
  simp only [ref1_Reader_term_L0,jn,Bool.not_false,cond_true,cond_false,s1,s2,s3,Option.bind_some,wrT g h2,ref1_binary]
  rfl
theorem sum_step (g : GoodT T) {at_ : Nat} {k : Int} (h6 : 4 ≤ k) (h8 : k ≤ 5) {x y : Expr} {ty r : List Key} {j d : Nat} {b : Int} (hv : Vw T at_ ((3,sgn k,0) :: (ty ++ r))) (hr : Nx [x_2a,x_2f,x_25] r) (hy : RdT T y ty j) (hd : d + j ≤ 10) {X : Expr × Reader}
  (hX : ∀ a0 r1,Ev (fun n=>ref1_Reader_sum_L0 n a0 (d : Int) r1 J0 ⟨T,((at_ + 1 + ty.length : Nat) : Int),false,b⟩ b0 ⟨k,0,b0,[x,y]⟩) X) (a0 : Reader) (r1 : Expr × Reader) : Ev (fun n=>ref1_Reader_sum_L0 n a0 (d : Int) r1 J0 ⟨T,(at_ : Int),false,b⟩ b0 x) X:=by
 obtain ⟨_,h2,h3⟩:=Vw.cons hv
 have k1:=hy.full (at_ + 1) r d b h3 hr hd
 refine Ev.step (Ev.of_eq (g:=fun n=>(ref1_Reader_term n ⟨T,((at_ + 1 : Nat) : Int),false,b⟩ (d : Int)).bind fun r15=>ref1_Reader_sum_L0 n a0 (d : Int) r1 J0 r15.2 b0 ⟨k,0,b0,[x,r15.1]⟩) (fun n=>?_) (Ev.bind k1 (hX a0 r1)))
 have : k = 4 ∨ k = 5:=by omega
 rcases this with rfl | rfl
 ·have s1 : ref1_Reader_sign n ⟨T,(at_ : Int),false,b⟩ x_2b = some true:=sign_k hv b x_2b n
  simp only [ref1_Reader_sum_L0,jn,Bool.not_false,cond_true,s1,Option.bind_some,wrT g h2,ref1_binary]
  rfl
 ·have s1 : ref1_Reader_sign n ⟨T,(at_ : Int),false,b⟩ x_2b = some false:=sign_k hv b x_2b n
  have s2 : ref1_Reader_sign n ⟨T,(at_ : Int),false,b⟩ x_2d = some true:=sign_k hv b x_2d n
  simp only [ref1_Reader_sum_L0,jn,Bool.not_false,cond_true,cond_false,s1,s2,Option.bind_some,wrT g h2,ref1_binary]
  rfl
theorem nx_sgn {k : Int} (h4 : 4 ≤ k) (h10 : k ≤ 10) (r : List Key) : (k < 6 ∨ 8 < k → Nx [x_2a,x_2f,x_25] ((3,sgn k,0) :: r)) ∧ (8 < k → Nx [x_2b,x_2d] ((3,sgn k,0) :: r)):=by
 have : k = 4 ∨ k = 5 ∨ k = 6 ∨ k = 7 ∨ k = 8 ∨ k = 9 ∨ k = 10:=by omega
 have aux : ∀ (u : ByteArray) (ws : List ByteArray),(ws.all fun w=>!bytesEq u w) = true → Nx ws ((3,u,0) :: r):=fun u ws h=>⟨_,_,rfl,fun w hw=>by
  have:=List.all_eq_true.1 h w hw
  show bytesEq u w = false
  simpa using this⟩
 rcases this with rfl | rfl | rfl | rfl | rfl | rfl | rfl
 ·exact ⟨fun _=>aux x_2b _ rfl,fun h=>by omega⟩
 ·exact ⟨fun _=>aux x_2d _ rfl,fun h=>by omega⟩
 ·exact ⟨fun h=>by omega,fun h=>by omega⟩
 ·exact ⟨fun h=>by omega,fun h=>by omega⟩
 ·exact ⟨fun h=>by omega,fun h=>by omega⟩
 ·exact ⟨fun _=>aux x_3c _ rfl,fun h=>aux x_3c _ rfl⟩
 ·exact ⟨fun _=>aux x_3d3d _ rfl,fun h=>aux x_3d3d _ rfl⟩
theorem cmp_k (g : GoodT T) {k : Int} (h9 : 9 ≤ k) (h10 : k ≤ 10) {x y : Expr} {tx ty : List Key} {j : Nat} (hx : RdS T x tx j) (hy : RdS T y ty j) : RdE T ⟨k,0,b0,[x,y]⟩ (tx ++ ((3,sgn k,0) :: ty)) j:=fun at_ r d b hv hr hd=>by
 have hv' : Vw T at_ (tx ++ ((3,sgn k,0) :: (ty ++ r))):=by simpa using hv
 have nx:=nx_sgn (show 4 ≤ k by omega) h10 (ty ++ r)
 have k1:=hx.full at_ _ d b hv' (nx.1 (.inr (by omega))) (nx.2 (by omega)) hd
 have hv2:=hv'.app
 obtain ⟨_,h2,h3⟩:=Vw.cons hv2
 have k2:=hy.full (at_ + tx.length + 1) r d b h3 (hr.mono (by simp)) (hr.mono (by simp)) hd
 have e3:=wrT g h2
 refine Ev.step (Ev.of_eq (g:=fun n=>(ref1_Reader_sum n ⟨T,(at_ : Int),false,b⟩ (d : Int)).bind fun r1=>(ref1_Reader_sign n r1.2 x_3c).bind fun r5=>bif r5 then (ref1_Reader_sum n (Reader.mk r1.2.T (wr (r1.2.At + 1)) r1.2.Fail r1.2.Bad) (d : Int)).bind fun r7=>(ref1_binary n 9 r1.1 r7.1).bind fun r8=>some (r8,r7.2) else
  (ref1_Reader_sign n r1.2 x_3d3d).bind fun r6=>bif r6 then (ref1_Reader_sum n (Reader.mk r1.2.T (wr (r1.2.At + 1)) r1.2.Fail r1.2.Bad) (d : Int)).bind fun r7=>(ref1_binary n 10 r1.1 r7.1).bind fun r8=>some (r8,r7.2) else some (r1.1,r1.2)) (fun n=>by simp only [ref1_Reader_expr,jn]; rfl) (Ev.bind k1 ?_))
 rw [show at_ + (tx ++ ((3,sgn k,0) :: ty)).length = at_ + tx.length + 1 + ty.length by simp; omega]
 have : k = 9 ∨ k = 10:=by omega
 rcases this with rfl | rfl
 ·have s1 : ∀ n,ref1_Reader_sign n ⟨T,((at_ + tx.length : Nat) : Int),false,b⟩ x_3c = some true:=fun n=>sign_k hv2 b x_3c n
  simp only [s1,Option.bind_some,cond_true,e3,ref1_binary]
  exact Ev.bind k2 (Ev.ret _)
 ·have s1 : ∀ n,ref1_Reader_sign n ⟨T,((at_ + tx.length : Nat) : Int),false,b⟩ x_3c = some false:=fun n=>sign_k hv2 b x_3c n
  have s2 : ∀ n,ref1_Reader_sign n ⟨T,((at_ + tx.length : Nat) : Int),false,b⟩ x_3d3d = some true:=fun n=>sign_k hv2 b x_3d3d n
  simp only [s1,s2,Option.bind_some,cond_true,cond_false,e3,ref1_binary]
  exact Ev.bind k2 (Ev.ret _)
set_option maxRecDepth 100000 in
theorem noKw5 : ∀ w ∈ [k_x,k_y,k_z,k_a,k_t,k_c,k_d,k_l,k_k,k_m],NoKw w:=by
 intro w hw
 refine ⟨30,fun n hn=>?_⟩
 obtain ⟨m,rfl⟩ : ∃ m,n = m + 30:=⟨n - 30,by omega⟩
 simp only [List.mem_cons,List.not_mem_nil,or_false] at hw
 rcases hw with rfl | rfl | rfl | rfl | rfl | rfl | rfl | rfl | rfl | rfl <;> kernel_rfl
theorem tkS_hi {low : Int} {e : Expr} {ts : List Key} (h : low ≤ lvl e.Kind) : tkS low e ts = ts:=by
 unfold tkS; rw [decide_eq_false (by omega)]; rfl
theorem tkS_lo {low : Int} {e : Expr} {ts : List Key} (h : lvl e.Kind < low) : tkS low e ts = (3,x_28,0) :: (ts ++ [(3,x_29,0)]):=by
 unfold tkS; rw [decide_eq_true h]; rfl
theorem okE_pos : ∀ (d : Nat) (e : Expr),okE d e → 1 ≤ d
 | 0,_,h=>h.elim
 | d + 1,_,_=>by omega
theorem rdE_all (g : GoodT T) : ∀ (d : Nat) (e : Expr),okE d e → RdF T e (tkS 4 e (tkE d e)) (2 * d) ∧ RdT T e (tkS 3 e (tkE d e)) (2 * d) ∧ RdS T e (tkS 2 e (tkE d e)) (2 * d) ∧ RdE T e (tkE d e) (2 * d - 1)
 | 0,_,h=>h.elim
 | d + 1,⟨k,m,w,l⟩,h=>by
  have hk:=okE_kind _ _ h
  obtain ⟨_,l4,l5,l3⟩:=levelT k hk.1 hk.2
  have hi : ∀ j : Nat,j ≤ 2 * d + 1 → 4 ≤ lvl k → RdF T ⟨k,m,w,l⟩ (tkE (d + 1) ⟨k,m,w,l⟩) j → RdF T ⟨k,m,w,l⟩ (tkS 4 ⟨k,m,w,l⟩ (tkE (d + 1) ⟨k,m,w,l⟩)) (2 * (d + 1)) ∧ RdT T ⟨k,m,w,l⟩ (tkS 3 ⟨k,m,w,l⟩ (tkE (d + 1) ⟨k,m,w,l⟩)) (2 * (d + 1)) ∧ RdS T ⟨k,m,w,l⟩ (tkS 2 ⟨k,m,w,l⟩ (tkE (d + 1) ⟨k,m,w,l⟩)) (2 * (d + 1)) ∧ RdE T ⟨k,m,w,l⟩ (tkE (d + 1) ⟨k,m,w,l⟩) (2 * (d + 1) - 1):=by
   intro j hj hl hF
   rw [tkS_hi (show (4 : Int) ≤ lvl k from hl),tkS_hi (show (3 : Int) ≤ lvl k by omega),tkS_hi (show (2 : Int) ≤ lvl k by omega)]
   exact ⟨hF.mono (by omega),(hF.mono (by omega)).toT,((hF.mono (by omega)).toT).toS,((hF.mono (show j ≤ 2 * (d + 1) - 1 by omega)).toT).toS.toE⟩
  rcases h with ⟨h1,h2,h3,h4,h5⟩ | ⟨h1,h2,h3,h5⟩ | ⟨h1,h2,h3,x,h5,h6⟩ | ⟨h1,h1',h2,h3,x,y,h5,h6,h7⟩
  ·simp only at h1 h4 h5
   subst h1; subst h4; subst h5
   exact hi 0 (by omega) (by rw [l5 (by omega)]; decide) (num_k g m 0)
  ·simp only at h1 h2 h3 h5
   subst h1; subst h2; subst h5
   exact hi 0 (by omega) (by rw [l5 (by omega)]; decide) (nam_k g w (noKw5 w (by simp only [List.mem_cons,List.not_mem_nil,or_false] at h3 ⊢; rcases h3 with h | h | h | h | h <;> simp [h])) 0)
  ·simp only at h1 h2 h3 h5
   subst h1; subst h2; subst h3; subst h5
   have:=okE_pos d x h6
   exact hi (2 * d + 1) (by omega) (by rw [l3 rfl]; decide) (neg_k g (rdE_all g d x h6).1 (by omega))
  ·simp only at h1 h1' h2 h3 h5
   subst h2; subst h3; subst h5
   have hp:=okE_pos d x h6
   obtain ⟨fx,tx,sx,_⟩:=rdE_all g d x h6
   obtain ⟨fy,ty,sy,_⟩:=rdE_all g d y h7
   have b1 : (k == 1) = false:=beq_eq_false_iff_ne.2 (by omega)
   have b2 : (k == 2) = false:=beq_eq_false_iff_ne.2 (by omega)
   have ht : tkE (d + 1) ⟨k,0,b0,[x,y]⟩ = tkS (lft k) x (tkE d x) ++ ((3,sgn k,0) :: tkS (lvl k + 1) y (tkE d y)):=by rw [tkE,b1,b2]; rfl
   have lo : lvl k < 4:=by have:=(l4 h1).2; omega
   have fin : RdE T ⟨k,0,b0,[x,y]⟩ (tkE (d + 1) ⟨k,0,b0,[x,y]⟩) (2 * (d + 1) - 1) → RdF T ⟨k,0,b0,[x,y]⟩ ((3,x_28,0) :: (tkE (d + 1) ⟨k,0,b0,[x,y]⟩ ++ [(3,x_29,0)])) (2 * (d + 1)):=fun hE =>
    (par_k g hE (by omega)).mono (by omega)
   have k3 : k = 4 ∨ k = 5 ∨ k = 6 ∨ k = 7 ∨ k = 8 ∨ k = 9 ∨ k = 10:=by omega
   by_cases c1 : 9 ≤ k
   ·have e1 : lvl k = 1:=by rcases k3 with rfl | rfl | rfl | rfl | rfl | rfl | rfl <;> first | rfl | (exfalso; omega)
    have e2 : lft k = 2:=by unfold lft; rw [e1]; rfl
    have hE : RdE T ⟨k,0,b0,[x,y]⟩ (tkE (d + 1) ⟨k,0,b0,[x,y]⟩) (2 * (d + 1) - 1):=by
     rw [ht,e1,e2]; exact cmp_k g c1 h1' (sx.mono (by omega)) (sy.mono (by omega))
    have hF:=fin hE
    rw [tkS_lo (show lvl k < 4 from lo),tkS_lo (show lvl k < 3 by omega),tkS_lo (show lvl k < 2 by omega)]
    exact ⟨hF,hF.toT,hF.toT.toS,hE⟩
   by_cases c2 : 6 ≤ k
   ·have e1 : lvl k = 3:=by rcases k3 with rfl | rfl | rfl | rfl | rfl | rfl | rfl <;> first | rfl | (exfalso; omega)
    have e2 : lft k = 3:=by unfold lft; rw [e1]; rfl
    have hT : RdT T ⟨k,0,b0,[x,y]⟩ (tkE (d + 1) ⟨k,0,b0,[x,y]⟩) (2 * (d + 1) - 1):=by
     rw [ht,e1,e2]
     intro at_ r dd b X hv hd hX
     have hv' : Vw T at_ (tkS 3 x (tkE d x) ++ ((3,sgn k,0) :: (tkS 4 y (tkE d y) ++ r))):=by simpa using hv
     refine tx at_ _ dd b X hv' (by omega) (term_step g c2 (by omega) hv'.app fy (by omega) fun a0 r1=>?_)
     have:=hX a0 r1
     rw [show at_ + (tkS 3 x (tkE d x) ++ ((3,sgn k,0) :: tkS (3 + 1) y (tkE d y))).length = at_ + (tkS 3 x (tkE d x)).length + 1 + (tkS 4 y (tkE d y)).length by simp; omega] at this
     exact this
    have hS:=hT.toS
    have hE:=hS.toE
    rw [tkS_lo (show lvl k < 4 from lo),tkS_hi (show (3 : Int) ≤ lvl k by omega),tkS_hi (show (2 : Int) ≤ lvl k by omega)]
    exact ⟨fin hE,hT.mono (by omega),hS.mono (by omega),hE⟩
   ·have e1 : lvl k = 2:=by rcases k3 with rfl | rfl | rfl | rfl | rfl | rfl | rfl <;> first | rfl | (exfalso; omega)
    have e2 : lft k = 2:=by unfold lft; rw [e1]; rfl
    have hS : RdS T ⟨k,0,b0,[x,y]⟩ (tkE (d + 1) ⟨k,0,b0,[x,y]⟩) (2 * (d + 1) - 1):=by
     rw [ht,e1,e2]
     intro at_ r dd b X hv hr hd hX
     have hv' : Vw T at_ (tkS 2 x (tkE d x) ++ ((3,sgn k,0) :: (tkS 3 y (tkE d y) ++ r))):=by simpa using hv
     refine sx at_ _ dd b X hv' ((nx_sgn h1 h1' _).1 (.inl (by omega))) (by omega) (sum_step g h1 (by omega) hv'.app hr ty (by omega) fun a0 r1=>?_)
     have:=hX a0 r1
     rw [show at_ + (tkS 2 x (tkE d x) ++ ((3,sgn k,0) :: tkS (2 + 1) y (tkE d y))).length = at_ + (tkS 2 x (tkE d x)).length + 1 + (tkS 3 y (tkE d y)).length by simp; omega] at this
     exact this
    have hE:=hS.toE
    have hF:=fin hE
    rw [tkS_lo (show lvl k < 4 from lo),tkS_lo (show lvl k < 3 by omega),tkS_hi (show (2 : Int) ≤ lvl k by omega)]
    exact ⟨hF,hF.toT,hS.mono (by omega),hE⟩
theorem whole_k (g : GoodT T) {e : Expr} (he : okE 4 e) (s : ByteArray) {at_ : Nat} {r : List Key} (b : Int) (hv : Vw T at_ (tkE 4 e ++ r)) (hr : Nx allOps r) : Ev (fun n=>ref1_Reader_whole n ⟨T,(at_ : Int),false,b⟩ s) (e,⟨T,((at_ + (tkE 4 e).length : Nat) : Int),false,b⟩):=by
 have k1:=(rdE_all g 4 e he).2.2.2 at_ r 0 b hv hr (by omega)
 refine Ev.of_eq (g:=fun n=>(ref1_Reader_expr n ⟨T,(at_ : Int),false,b⟩ ((0 : Nat) : Int)).bind fun r7=>some (⟨r7.1.Kind,r7.1.N,r7.1.Name,r7.1.Of⟩,r7.2)) (fun n=>?_) (Ev.bind k1 (by cases e; exact Ev.ret _))
 simp only [ref1_Reader_whole,jn,Bool.not_false,cond_true]
 rfl
end
end Go.Su.Ytepcmciljmennaa
namespace Go.Su.Ytepcmciljmennaa
open Go.Mx Go.Proofs
set_option linter.unusedVariables false
set_option linter.unusedSimpArgs false
set_option maxHeartbeats 4000000
mutual
def ers : Stmt → Stmt
 | ⟨k,w,v,m,e,b,l,_⟩=>⟨k,w,v,m,e,ersL b,ersL l,c0⟩
def ersL : List Stmt → List Stmt
 | []=>[]
 | s :: r=>ers s :: ersL r
end
def NxB (r : List Key) : Prop:=∃ k r',r = k :: r' ∧ (∀ w ∈ allOps,isS k w = false) ∧ (bif (k.1 == 1) then bytesEq k.2.1 k_else else false) = false
theorem NxB.nx {r : List Key} (h : NxB r) : Nx allOps r:=by
 obtain ⟨k,r',h1,h2,_⟩:=h
 exact ⟨k,r',h1,h2⟩
theorem nxB_end (r : List Key) : NxB ((3,x_7d,0) :: r):=⟨_,_,rfl,by
 intro w hw
 simp only [List.mem_cons,List.not_mem_nil,or_false] at hw
 rcases hw with rfl | rfl | rfl | rfl | rfl | rfl | rfl <;> rfl,rfl⟩
theorem nx_open (r : List Key) : Nx allOps ((3,x_7b,0) :: r):=⟨_,_,rfl,by
 intro w hw
 simp only [List.mem_cons,List.not_mem_nil,or_false] at hw
 rcases hw with rfl | rfl | rfl | rfl | rfl | rfl | rfl <;> rfl⟩
theorem tkSt_head {d : Nat} {s : Stmt} (h : okS d s) : ∃ w r,tkSt s = (1,w,0) :: r ∧ bytesEq w k_else = false:=by
 obtain ⟨k,w,v,mm,e,b,l,a⟩:=s
 obtain ⟨hH,_⟩:=(show okS d ⟨k,w,v,mm,e,b,l,a⟩ from h)
 cases hH
 case assign =>
  have hw' : w ∈ [k_x,k_y,k_z,k_a,k_t]:=by assumption
  refine ⟨w,_,by rw [tkSt]; rfl,?_⟩
  simp only [List.mem_cons,List.not_mem_nil,or_false] at hw'
  rcases hw' with rfl | rfl | rfl | rfl | rfl <;> rfl
 all_goals exact ⟨_,_,by rw [tkSt]; rfl,rfl⟩
theorem nxB_st {d : Nat} {s : Stmt} (h : okS d s) (r : List Key) : NxB (tkSt s ++ r):=by
 obtain ⟨w,r',h1,h2⟩:=tkSt_head h
 rw [h1]
 exact ⟨(1,w,0),r' ++ r,rfl,fun u _=>rfl,h2⟩
theorem nxB_blk {d : Nat} (l : List Stmt) (h : okSl d l) (r : List Key) : NxB (tkB l ++ ((3,x_7d,0) :: r)):=by
 cases l with
 | nil=>exact nxB_end r
 | cons s q=>rw [okSl] at h; rw [tkB,List.append_assoc]; exact nxB_st h.1 _
section
variable {T : List Token}
def RdSt (T : List Token) (w : ByteArray) (s : Stmt) : Prop:=∀ (d dp at_ : Nat) (r : List Key) (b : Int),okS d s → dp + d ≤ 7 → Vw T at_ (tkSt s ++ r) → NxB r →
 ∃ s',Ev (fun n=>ref1_Reader_stmt n ⟨T,(at_ : Int),false,b⟩ w (dp : Int)) (s',⟨T,((at_ + (tkSt s).length : Nat) : Int),false,b⟩) ∧ ers s' = ers s
def RdL (T : List Token) (w : ByteArray) (l : List Stmt) : Prop:=∀ (d dp at_ : Nat) (r : List Key) (b : Int) (a0 v1 r4 : Reader) (pre : List Stmt),okSl d l → (l ≠ [] → dp + d ≤ 7) → Vw T at_ (tkB l ++ ((3,x_7d,0) :: r)) → pre.length ≤ at_ →
 ∃ l',Ev (fun n=>ref1_Reader_block_L0 n a0 w (dp : Int) v1 r4 ⟨T,(at_ : Int),false,b⟩ pre) (pre ++ l',⟨T,((at_ + (tkB l).length + 1 : Nat) : Int),false,b⟩) ∧ ersL l' = ersL l
theorem block_k (g : GoodT T) {w : ByteArray} {l : List Stmt} (hl : RdL T w l) {d dp at_ : Nat} {r : List Key} (b : Int) (ho : okSl d l) (h7 : l ≠ [] → dp + d ≤ 7) (h8 : dp ≤ 8) (hv : Vw T at_ ((3,x_7b,0) :: (tkB l ++ ((3,x_7d,0) :: r)))) :
  ∃ l',Ev (fun n=>ref1_Reader_block n ⟨T,(at_ : Int),false,b⟩ w (dp : Int)) (l',⟨T,((at_ + (1 + (tkB l).length + 1) : Nat) : Int),false,b⟩) ∧ ersL l' = ersL l:=by
 obtain ⟨_,h2,h3⟩:=Vw.cons hv
 obtain ⟨l',k1,k2⟩:=hl d dp (at_ + 1) r b ⟨T,(at_ : Int),false,b⟩ ⟨T,(at_ : Int),false,b⟩ ⟨T,((at_ + 1 : Nat) : Int),false,b⟩ [] ho h7 h3 (by simp)
 have d8 : decide ((dp : Int) > 8) = false:=decide_eq_false (by omega)
 have m1:=must_k g hv b
 refine ⟨l',Ev.step (Ev.of_eq (fun n=>?_) (by rw [show at_ + (1 + (tkB l).length + 1) = at_ + 1 + (tkB l).length + 1 by omega]; exact k1)),k2⟩
 simp only [ref1_Reader_block,jn,d8,cond_false,m1,Option.bind_some]
theorem loop_nil (g : GoodT T) (w : ByteArray) : RdL T w []:=fun d dp at_ r b a0 v1 r4 pre ho h7 hv hp=>by
 have hv' : Vw T at_ ((3,x_7d,0) :: r):=hv
 obtain ⟨_,h2,h3⟩:=Vw.cons hv'
 have s1 : ∀ n,ref1_Reader_sign n ⟨T,(at_ : Int),false,b⟩ x_7d = some true:=fun n=>sign_k hv' b x_7d n
 have m1:=must_k g hv' b
 refine ⟨[],Ev.step (Ev.of_eq (g:=fun n=>some (pre,⟨T,((at_ + 1 : Nat) : Int),false,b⟩)) (fun n=>?_) (by rw [List.append_nil]; exact Ev.ret _)),rfl⟩
 simp only [ref1_Reader_block_L0,jn,Bool.not_false,Bool.not_true,cond_true,cond_false,s1,Option.bind_some,m1]
theorem loop_cons (g : GoodT T) (w : ByteArray) {s : Stmt} {q : List Stmt} (hs : RdSt T w s) (hq : RdL T w q) : RdL T w (s :: q):=fun d dp at_ r b a0 v1 r4 pre ho h7 hv hp=>by
 rw [okSl] at ho
 have h7':=h7 (by simp)
 rw [tkB,List.append_assoc] at hv
 obtain ⟨w0,r0,e0,_⟩:=tkSt_head ho.1
 have hv0:=hv
 rw [e0] at hv0
 have hlt:=(Vw.cons (r:=r0 ++ (tkB q ++ ((3,x_7d,0) :: r))) hv0).2.1
 have s1 : ∀ n,ref1_Reader_sign n ⟨T,(at_ : Int),false,b⟩ x_7d = some false:=fun n=>sign_k (r:=r0 ++ (tkB q ++ ((3,x_7d,0) :: r))) hv0 b x_7d n
 obtain ⟨s',k1,k2⟩:=hs d dp at_ _ b ho.1 h7' hv (nxB_blk q ho.2 r)
 have hl1 : 1 ≤ (tkSt s).length:=by rw [e0]; simp
 obtain ⟨l',m1,m2⟩:=hq d dp (at_ + (tkSt s).length) r b a0 v1 r4 (pre ++ [s']) ho.2 (fun _=>h7') hv.app (by simp; omega)
 have rm:=roomP pre.length (by have:=g.len; omega) s'
 refine ⟨s' :: l',Ev.step (Ev.of_eq (g:=fun n=>(ref1_Reader_stmt n ⟨T,(at_ : Int),false,b⟩ w (dp : Int)).bind fun r10=>bif !r10.2.Fail then (bif room s_Stmt.i1.bytes pre.length [r10.1].length then ref1_Reader_block_L0 n a0 w (dp : Int) v1 r4 r10.2 (pre ++ [r10.1]) else none) else ref1_Reader_block_L0 n a0 w (dp : Int) v1 r4 r10.2 pre) (fun n=>?_) (Ev.bind k1 ?_)),by rw [ersL,ersL,k2,m2]⟩
 ·simp only [ref1_Reader_block_L0,jn,Bool.not_false,cond_true,s1,Option.bind_some]
 ·simp only [Bool.not_false,cond_true,rm]
  rw [tkB,List.length_append,show at_ + ((tkSt s).length + (tkB q).length) + 1 = at_ + (tkSt s).length + (tkB q).length + 1 by omega]
  simpa using m1
theorem stmt_k (g : GoodT T) (w : ByteArray) (hsz : w.size ≤ 6000) {k : Int} {nm v : ByteArray} {mm : Int} {e : Expr} {bo l : List Stmt} {a : Cx} (hb : RdL T w bo) (hl : RdL T w l) : RdSt T w ⟨k,nm,v,mm,e,bo,l,a⟩:=fun d dp at_ r b ho h7 hv hr=>by
 obtain ⟨hH,h0,_,ob,ol⟩:=(show okS d ⟨k,nm,v,mm,e,bo,l,a⟩ from ho)
 have dn : ∀ x : List Stmt,(d = 0 → x = []) → x ≠ [] → (dp + 1) + (d - 1) ≤ 7:=fun x hx hne=>by
  rcases Nat.eq_zero_or_pos d with z | z
  ·exact absurd (hx z) hne
  ·omega
 have hd1:=wr1 dp (by omega)
 cases hH
 case assign =>
  have he : okE 4 e:=by assumption
  have hw' : nm ∈ [k_x,k_y,k_z,k_a,k_t]:=by assumption
  have hv' : Vw T at_ ((1,nm,0) :: (3,x_3d,0) :: (tkE 4 e ++ r)):=by rw [tkSt] at hv; exact hv
  obtain ⟨⟨p,h1⟩,h2,h3⟩:=Vw.cons hv'
  obtain ⟨_,h4,h5⟩:=Vw.cons h3
  obtain ⟨z,hz,_⟩:=place_ev w hsz p
  have m1:=must_k g h3 b
  have k1:=whole_k g he w b h5 hr.nx
  have kk:=noKw5 nm (by simp only [List.mem_cons,List.not_mem_nil,or_false] at hw' ⊢; rcases hw' with h | h | h | h | h <;> simp [h])
  refine ⟨⟨1,nm,b0,0,e,[],[],z⟩,Ev.step (Ev.of_eq (g:=fun n=>(ref1_Place n w p).bind fun r2=>(ref1_Keyword n nm).bind fun r41=>bif r41 then (ref1_Reader_failAt n ⟨T,((at_ + 1 : Nat) : Int),false,b⟩ (wr (((at_ + 1 : Nat) : Int) - 1))).bind fun r42=>some (⟨0,b0,b0,0,⟨0,0,b0,[]⟩,[],[],r2⟩,r42) else
   (ref1_Reader_whole n ⟨T,((at_ + 1 + 1 : Nat) : Int),false,b⟩ w).bind fun r44=>some (⟨1,nm,b0,0,⟨r44.1.Kind,r44.1.N,r44.1.Name,r44.1.Of⟩,[],[],r2⟩,r44.2)) (fun n=>?_) (Ev.bind hz (Ev.bind kk (Ev.no rfl (Ev.bind k1 ?_))))),by rw [ers,ers]⟩
  ·simp only [List.mem_cons,List.not_mem_nil,or_false] at hw'
   simp only [ref1_Reader_stmt,h1,Option.bind_some,jn,wrT g h2,m1]
   rcases hw' with rfl | rfl | rfl | rfl | rfl <;> rfl
  ·rw [tkSt]
   have : at_ + ((1,nm,0) :: (3,x_3d,0) :: tkE 4 e : List Key).length = at_ + 1 + 1 + (tkE 4 e).length:=by simp; omega
   show Ev _ (_,(⟨T,((at_ + ((1,nm,0) :: (3,x_3d,0) :: tkE 4 e : List Key).length : Nat) : Int),false,b⟩ : Reader))
   rw [this]
   cases e; exact Ev.ret _
 case lock =>
  have hv' : Vw T at_ ((1,k_lock,0) :: (1,k_m,0) :: r):=by rw [tkSt] at hv; exact hv
  obtain ⟨⟨p,h1⟩,h2,h3⟩:=Vw.cons hv'
  obtain ⟨z,hz,_⟩:=place_ev w hsz p
  have k1:=name_k g h3 (noKw5 k_m (by simp)) b
  refine ⟨⟨2,k_m,b0,0,eN,[],[],z⟩,Ev.step (Ev.of_eq (g:=fun n=>(ref1_Place n w p).bind fun r2=>(ref1_Reader_name n ⟨T,((at_ + 1 : Nat) : Int),false,b⟩).bind fun r29=>some (⟨2,r29.1,b0,0,⟨0,0,b0,[]⟩,[],[],r2⟩,r29.2)) (fun n=>?_) (Ev.bind hz (Ev.bind k1 (Ev.ret _)))),by rw [ers,ers]⟩
  simp only [ref1_Reader_stmt,h1,Option.bind_some,jn,wrT g h2]
  rfl
 case unlock =>
  have hv' : Vw T at_ ((1,k_unlock,0) :: (1,k_m,0) :: r):=by rw [tkSt] at hv; exact hv
  obtain ⟨⟨p,h1⟩,h2,h3⟩:=Vw.cons hv'
  obtain ⟨z,hz,_⟩:=place_ev w hsz p
  have k1:=name_k g h3 (noKw5 k_m (by simp)) b
  refine ⟨⟨3,k_m,b0,0,eN,[],[],z⟩,Ev.step (Ev.of_eq (g:=fun n=>(ref1_Place n w p).bind fun r2=>(ref1_Reader_name n ⟨T,((at_ + 1 : Nat) : Int),false,b⟩).bind fun r29=>some (⟨3,r29.1,b0,0,⟨0,0,b0,[]⟩,[],[],r2⟩,r29.2)) (fun n=>?_) (Ev.bind hz (Ev.bind k1 (Ev.ret _)))),by rw [ers,ers]⟩
  simp only [ref1_Reader_stmt,h1,Option.bind_some,jn,wrT g h2]
  rfl
 case goto =>
  have hw' : nm ∈ [k_l,k_k]:=by assumption
  have hv' : Vw T at_ ((1,k_goto,0) :: (1,nm,0) :: r):=by rw [tkSt] at hv; exact hv
  obtain ⟨⟨p,h1⟩,h2,h3⟩:=Vw.cons hv'
  obtain ⟨z,hz,_⟩:=place_ev w hsz p
  have k1:=name_k g h3 (noKw5 nm (by simp only [List.mem_cons,List.not_mem_nil,or_false] at hw' ⊢; rcases hw' with h | h <;> simp [h])) b
  refine ⟨⟨9,nm,b0,0,eN,[],[],z⟩,Ev.step (Ev.of_eq (g:=fun n=>(ref1_Place n w p).bind fun r2=>(ref1_Reader_name n ⟨T,((at_ + 1 : Nat) : Int),false,b⟩).bind fun r29=>some (⟨9,r29.1,b0,0,⟨0,0,b0,[]⟩,[],[],r2⟩,r29.2)) (fun n=>?_) (Ev.bind hz (Ev.bind k1 (Ev.ret _)))),by rw [ers,ers]⟩
  simp only [ref1_Reader_stmt,h1,Option.bind_some,jn,wrT g h2]
  rfl
 case label =>
  have hw' : nm ∈ [k_l,k_k]:=by assumption
  have hv' : Vw T at_ ((1,k_label,0) :: (1,nm,0) :: r):=by rw [tkSt] at hv; exact hv
  obtain ⟨⟨p,h1⟩,h2,h3⟩:=Vw.cons hv'
  obtain ⟨z,hz,_⟩:=place_ev w hsz p
  have k1:=name_k g h3 (noKw5 nm (by simp only [List.mem_cons,List.not_mem_nil,or_false] at hw' ⊢; rcases hw' with h | h <;> simp [h])) b
  refine ⟨⟨10,nm,b0,0,eN,[],[],z⟩,Ev.step (Ev.of_eq (g:=fun n=>(ref1_Place n w p).bind fun r2=>(ref1_Reader_name n ⟨T,((at_ + 1 : Nat) : Int),false,b⟩).bind fun r29=>some (⟨10,r29.1,b0,0,⟨0,0,b0,[]⟩,[],[],r2⟩,r29.2)) (fun n=>?_) (Ev.bind hz (Ev.bind k1 (Ev.ret _)))),by rw [ers,ers]⟩
  simp only [ref1_Reader_stmt,h1,Option.bind_some,jn,wrT g h2]
  rfl
 case send =>
  have he : okE 4 e:=by assumption
  have hw' : nm ∈ [k_c,k_d]:=by assumption
  have hv' : Vw T at_ ((1,k_send,0) :: (1,nm,0) :: (tkE 4 e ++ r)):=by rw [tkSt] at hv; exact hv
  obtain ⟨⟨p,h1⟩,h2,h3⟩:=Vw.cons hv'
  obtain ⟨_,h4,h5⟩:=Vw.cons h3
  obtain ⟨z,hz,_⟩:=place_ev w hsz p
  have k1:=name_k g h3 (noKw5 nm (by simp only [List.mem_cons,List.not_mem_nil,or_false] at hw' ⊢; rcases hw' with h | h <;> simp [h])) b
  have k2:=whole_k g he w b h5 hr.nx
  refine ⟨⟨4,nm,b0,0,e,[],[],z⟩,Ev.step (Ev.of_eq (g:=fun n=>(ref1_Place n w p).bind fun r2=>(ref1_Reader_name n ⟨T,((at_ + 1 : Nat) : Int),false,b⟩).bind fun r30=>(ref1_Reader_whole n r30.2 w).bind fun r31=>some (⟨4,r30.1,b0,0,⟨r31.1.Kind,r31.1.N,r31.1.Name,r31.1.Of⟩,[],[],r2⟩,r31.2)) (fun n=>?_) (Ev.bind hz (Ev.bind k1 (Ev.bind k2 ?_)))),by rw [ers,ers]⟩
  ·simp only [ref1_Reader_stmt,h1,Option.bind_some,jn,wrT g h2]
   rfl
  ·rw [tkSt]
   have : at_ + ((1,k_send,0) :: (1,nm,0) :: tkE 4 e : List Key).length = at_ + 1 + 1 + (tkE 4 e).length:=by simp; omega
   show Ev _ (_,(⟨T,((at_ + ((1,k_send,0) :: (1,nm,0) :: tkE 4 e : List Key).length : Nat) : Int),false,b⟩ : Reader))
   rw [this]
   cases e; exact Ev.ret _
 case recv =>
  have hw' : nm ∈ [k_c,k_d]:=by assumption
  have hv2 : v ∈ [k_x,k_y,k_z,k_a,k_t]:=by assumption
  have hv' : Vw T at_ ((1,k_recv,0) :: (1,nm,0) :: (1,v,0) :: r):=by rw [tkSt] at hv; exact hv
  obtain ⟨⟨p,h1⟩,h2,h3⟩:=Vw.cons hv'
  obtain ⟨_,h4,h5⟩:=Vw.cons h3
  obtain ⟨z,hz,_⟩:=place_ev w hsz p
  have k1:=name_k g h3 (noKw5 nm (by simp only [List.mem_cons,List.not_mem_nil,or_false] at hw' ⊢; rcases hw' with h | h <;> simp [h])) b
  have k2:=name_k g h5 (noKw5 v (by simp only [List.mem_cons,List.not_mem_nil,or_false] at hv2 ⊢; rcases hv2 with h | h | h | h | h <;> simp [h])) b
  refine ⟨⟨5,nm,v,0,eN,[],[],z⟩,Ev.step (Ev.of_eq (g:=fun n=>(ref1_Place n w p).bind fun r2=>(ref1_Reader_name n ⟨T,((at_ + 1 : Nat) : Int),false,b⟩).bind fun r30=>(ref1_Reader_name n r30.2).bind fun r31=>some (⟨5,r30.1,r31.1,0,⟨0,0,b0,[]⟩,[],[],r2⟩,r31.2)) (fun n=>?_) (Ev.bind hz (Ev.bind k1 (Ev.bind k2 (Ev.ret _))))),by rw [ers,ers]⟩
  simp only [ref1_Reader_stmt,h1,Option.bind_some,jn,wrT g h2]
  rfl
 case print =>
  have he : okE 4 e:=by assumption
  have hv' : Vw T at_ ((1,k_print,0) :: (tkE 4 e ++ r)):=by rw [tkSt] at hv; exact hv
  obtain ⟨⟨p,h1⟩,h2,h3⟩:=Vw.cons hv'
  obtain ⟨z,hz,_⟩:=place_ev w hsz p
  have k2:=whole_k g he w b h3 hr.nx
  refine ⟨⟨6,b0,b0,0,e,[],[],z⟩,Ev.step (Ev.of_eq (g:=fun n=>(ref1_Place n w p).bind fun r2=>(ref1_Reader_whole n ⟨T,((at_ + 1 : Nat) : Int),false,b⟩ w).bind fun r31=>some (⟨6,b0,b0,0,⟨r31.1.Kind,r31.1.N,r31.1.Name,r31.1.Of⟩,[],[],r2⟩,r31.2)) (fun n=>?_) (Ev.bind hz (Ev.bind k2 ?_))),by rw [ers,ers]⟩
  ·simp only [ref1_Reader_stmt,h1,Option.bind_some,jn,wrT g h2]
   rfl
  ·rw [tkSt]
   have : at_ + ((1,k_print,0) :: tkE 4 e : List Key).length = at_ + 1 + (tkE 4 e).length:=by simp; omega
   show Ev _ (_,(⟨T,((at_ + ((1,k_print,0) :: tkE 4 e : List Key).length : Nat) : Int),false,b⟩ : Reader))
   rw [this]
   cases e; exact Ev.ret _
 case rep =>
  have q0 : 0 ≤ mm:=by assumption
  have q1 : mm ≤ 2:=by assumption
  have hv' : Vw T at_ ((1,k_repeat,0) :: (2,dg mm,mm) :: (3,x_7b,0) :: (tkB bo ++ ((3,x_7d,0) :: r))):=by rw [tkSt] at hv; simpa using hv
  obtain ⟨⟨p,h1⟩,h2,h3⟩:=Vw.cons hv'
  obtain ⟨_,h4,h5⟩:=Vw.cons h3
  obtain ⟨z,hz,_⟩:=place_ev w hsz p
  have n1:=number_k g h3 (show mm ≤ 9 by omega) b
  obtain ⟨l',k1,k2⟩:=block_k g hb (dp:=dp + 1) b ob (dn bo fun z=>(h0 z).1) (by omega) h5
  refine ⟨⟨8,b0,b0,mm,eN,l',[],z⟩,Ev.step (Ev.of_eq (g:=fun n=>(ref1_Place n w p).bind fun r2=>(ref1_Reader_block n ⟨T,((at_ + 1 + 1 : Nat) : Int),false,b⟩ w ((dp + 1 : Nat) : Int)).bind fun r40=>some (⟨8,b0,b0,mm,⟨0,0,b0,[]⟩,r40.1,[],r2⟩,r40.2)) (fun n=>?_) (Ev.bind hz (Ev.bind k1 ?_))),by rw [ers,ers,k2]⟩
  ·simp only [ref1_Reader_stmt,h1,Option.bind_some,jn,wrT g h2,n1,hd1]
   rfl
  ·rw [tkSt]
   have : at_ + ((1,k_repeat,0) :: (2,dg mm,mm) :: (3,x_7b,0) :: (tkB bo ++ [(3,x_7d,0)]) : List Key).length = at_ + 1 + 1 + (1 + (tkB bo).length + 1):=by simp; omega
   show Ev _ (_,(⟨T,((at_ + ((1,k_repeat,0) :: (2,dg mm,mm) :: (3,x_7b,0) :: (tkB bo ++ [(3,x_7d,0)]) : List Key).length : Nat) : Int),false,b⟩ : Reader))
   rw [this]
   exact Ev.ret _
 case cond =>
  have he : okE 4 e:=by assumption
  cases hl0 : l with
  | nil =>
   subst hl0
   have hv' : Vw T at_ ((1,k_if,0) :: (tkE 4 e ++ ((3,x_7b,0) :: (tkB bo ++ ((3,x_7d,0) :: r))))):=by rw [tkSt] at hv; simpa using hv
   obtain ⟨⟨p,h1⟩,h2,h3⟩:=Vw.cons hv'
   obtain ⟨z,hz,_⟩:=place_ev w hsz p
   have k0:=whole_k g he w b h3 (nx_open _)
   have h5:=h3.app
   obtain ⟨l',k1,k2⟩:=block_k g hb (dp:=dp + 1) b ob (dn bo fun z=>(h0 z).1) (by omega) h5
   have h6 : Vw T (at_ + 1 + (tkE 4 e).length + (1 + (tkB bo).length + 1)) r:=by
    have:=(Vw.cons ((Vw.cons h5).2.2.app)).2.2
    rw [show at_ + 1 + (tkE 4 e).length + (1 + (tkB bo).length + 1) = at_ + 1 + (tkE 4 e).length + 1 + (tkB bo).length + 1 by omega]; exact this
   obtain ⟨kq,rq,hq,_,hel⟩:=hr
   rw [hq] at h6
   have w1:=word_k h6 b k_else
   rw [hel] at w1
   refine ⟨⟨7,b0,b0,0,e,l',[],z⟩,Ev.step (Ev.of_eq (g:=fun n=>(ref1_Place n w p).bind fun r2=>(ref1_Reader_whole n ⟨T,((at_ + 1 : Nat) : Int),false,b⟩ w).bind fun r35=>(ref1_Reader_block n r35.2 w ((dp + 1 : Nat) : Int)).bind fun r36=>(ref1_Reader_word n r36.2 k_else).bind fun r37=>bif r37 then
    (ref1_Reader_block n (Reader.mk r36.2.T (wr (r36.2.At + 1)) r36.2.Fail r36.2.Bad) w ((dp + 1 : Nat) : Int)).bind fun r38=>some (⟨7,b0,b0,0,⟨r35.1.Kind,r35.1.N,r35.1.Name,r35.1.Of⟩,r36.1,r38.1,r2⟩,r38.2) else some (⟨7,b0,b0,0,⟨r35.1.Kind,r35.1.N,r35.1.Name,r35.1.Of⟩,r36.1,[],r2⟩,r36.2)) (fun n=>?_) (Ev.bind hz (Ev.bind k0 (Ev.bind k1 ?_)))),by rw [ers,ers,k2]⟩
   ·simp only [ref1_Reader_stmt,h1,Option.bind_some,jn,wrT g h2,hd1]
    rfl
   ·rw [tkSt]
    have : at_ + ((1,k_if,0) :: (tkE 4 e ++ ((3,x_7b,0) :: (tkB bo ++ ((3,x_7d,0) :: [])))) : List Key).length = at_ + 1 + (tkE 4 e).length + (1 + (tkB bo).length + 1):=by simp; omega
    show Ev _ (_,(⟨T,((at_ + ((1,k_if,0) :: (tkE 4 e ++ ((3,x_7b,0) :: (tkB bo ++ ((3,x_7d,0) :: [])))) : List Key).length : Nat) : Int),false,b⟩ : Reader))
    rw [this]
    simp only [w1,Option.bind_some,cond_false]
    cases e; exact Ev.ret _
  | cons l0 lr =>
   have hv' : Vw T at_ ((1,k_if,0) :: (tkE 4 e ++ ((3,x_7b,0) :: (tkB bo ++ ((3,x_7d,0) :: (1,k_else,0) :: (3,x_7b,0) :: (tkB l ++ ((3,x_7d,0) :: r))))))):=by
    rw [tkSt] at hv
    have hne : l.isEmpty = false:=by rw [hl0]; rfl
    rw [hne] at hv
    simpa using hv
   have hne : l ≠ []:=by rw [hl0]; simp
   obtain ⟨⟨p,h1⟩,h2,h3⟩:=Vw.cons hv'
   obtain ⟨z,hz,_⟩:=place_ev w hsz p
   have k0:=whole_k g he w b h3 (nx_open _)
   have h5:=h3.app
   obtain ⟨l',k1,k2⟩:=block_k g hb (dp:=dp + 1) b ob (dn bo fun z=>(h0 z).1) (by omega) h5
   have h6 : Vw T (at_ + 1 + (tkE 4 e).length + (1 + (tkB bo).length + 1)) ((1,k_else,0) :: (3,x_7b,0) :: (tkB l ++ ((3,x_7d,0) :: r))):=by
    have:=(Vw.cons ((Vw.cons h5).2.2.app)).2.2
    rw [show at_ + 1 + (tkE 4 e).length + (1 + (tkB bo).length + 1) = at_ + 1 + (tkE 4 e).length + 1 + (tkB bo).length + 1 by omega]; exact this
   have w1 : ∀ n,ref1_Reader_word n ⟨T,((at_ + 1 + (tkE 4 e).length + (1 + (tkB bo).length + 1) : Nat) : Int),false,b⟩ k_else = some true:=fun n=>word_k h6 b k_else n
   obtain ⟨_,h7',h8⟩:=Vw.cons h6
   obtain ⟨l'',m1,m2⟩:=block_k g hl (dp:=dp + 1) b ol (dn l fun z=>(h0 z).2) (by omega) h8
   refine ⟨⟨7,b0,b0,0,e,l',l'',z⟩,Ev.step (Ev.of_eq (g:=fun n=>(ref1_Place n w p).bind fun r2=>(ref1_Reader_whole n ⟨T,((at_ + 1 : Nat) : Int),false,b⟩ w).bind fun r35=>(ref1_Reader_block n r35.2 w ((dp + 1 : Nat) : Int)).bind fun r36=>(ref1_Reader_word n r36.2 k_else).bind fun r37=>bif r37 then
    (ref1_Reader_block n (Reader.mk r36.2.T (wr (r36.2.At + 1)) r36.2.Fail r36.2.Bad) w ((dp + 1 : Nat) : Int)).bind fun r38=>some (⟨7,b0,b0,0,⟨r35.1.Kind,r35.1.N,r35.1.Name,r35.1.Of⟩,r36.1,r38.1,r2⟩,r38.2) else some (⟨7,b0,b0,0,⟨r35.1.Kind,r35.1.N,r35.1.Name,r35.1.Of⟩,r36.1,[],r2⟩,r36.2)) (fun n=>?_) (Ev.bind hz (Ev.bind k0 (Ev.bind k1 ?_)))),by rw [ers,ers,k2,m2,← hl0]⟩
   ·simp only [ref1_Reader_stmt,h1,Option.bind_some,jn,wrT g h2,hd1]
    rfl
   ·have ht : (tkSt ⟨7,b0,b0,0,e,bo,l0 :: lr,c0⟩ : List Key) = (1,k_if,0) :: (tkE 4 e ++ ((3,x_7b,0) :: (tkB bo ++ ((3,x_7d,0) :: (1,k_else,0) :: (3,x_7b,0) :: (tkB (l0 :: lr) ++ [(3,x_7d,0)]))))):=by rw [tkSt]; rfl
    rw [ht,← hl0]
    have : at_ + ((1,k_if,0) :: (tkE 4 e ++ ((3,x_7b,0) :: (tkB bo ++ ((3,x_7d,0) :: (1,k_else,0) :: (3,x_7b,0) :: (tkB l ++ [(3,x_7d,0)]))))) : List Key).length = at_ + 1 + (tkE 4 e).length + (1 + (tkB bo).length + 1) + 1 + (1 + (tkB l).length + 1):=by simp; omega
    rw [this]
    simp only [w1,Option.bind_some,cond_true,wrT g h7']
    refine Ev.bind m1 ?_
    cases e; exact Ev.ret _
theorem reads_k (g : GoodT T) (w : ByteArray) (hsz : w.size ≤ 6000) : (∀ s : Stmt,RdSt T w s) ∧ ∀ l : List Stmt,RdL T w l :=
 stmt_ind (fun k nm v m e b l a hb hl=>stmt_k g w hsz hb hl) (loop_nil g w) (fun s r hs hr=>loop_cons g w hs hr)
end
end Go.Su.Ytepcmciljmennaa
namespace Go.Su.Ytepcmciljmennaa
open Go.Mx Go.Proofs
set_option linter.unusedVariables false
set_option linter.unusedSimpArgs false
set_option maxHeartbeats 4000000
def erd (d : Decl) : Decl:=⟨d.Kind,d.Name,d.N,c0⟩
def rdD2 (d : Decl) : Prop:=1 ≤ d.Kind ∧ d.Kind ≤ 6 ∧ 0 ≤ d.N ∧ d.N ≤ 3 ∧ (d.Kind ≠ 6 → d.N = 0) ∧ NoKw d.Name
set_option maxRecDepth 100000 in
theorem dk1 (m : Nat) : ref1_declKind (m + 20) (kwD 1) = some 1:=by kernel_rfl
set_option maxRecDepth 100000 in
theorem dk2 (m : Nat) : ref1_declKind (m + 20) (kwD 2) = some 2:=by kernel_rfl
set_option maxRecDepth 100000 in
theorem dk3 (m : Nat) : ref1_declKind (m + 20) (kwD 3) = some 3:=by kernel_rfl
set_option maxRecDepth 100000 in
theorem dk4 (m : Nat) : ref1_declKind (m + 20) (kwD 4) = some 4:=by kernel_rfl
set_option maxRecDepth 100000 in
theorem dk5 (m : Nat) : ref1_declKind (m + 20) (kwD 5) = some 5:=by kernel_rfl
set_option maxRecDepth 100000 in
theorem dk6 (m : Nat) : ref1_declKind (m + 20) (kwD 6) = some 6:=by kernel_rfl
theorem dk_ev (k : Int) (h1 : 1 ≤ k) (h6 : k ≤ 6) : Ev (fun n=>ref1_declKind n (kwD k)) k:=by
 refine ⟨20,fun n hn=>?_⟩
 obtain ⟨m,rfl⟩ : ∃ m,n = m + 20:=⟨n - 20,by omega⟩
 have : k = 1 ∨ k = 2 ∨ k = 3 ∨ k = 4 ∨ k = 5 ∨ k = 6:=by omega
 rcases this with rfl | rfl | rfl | rfl | rfl | rfl
 ·exact dk1 m
 ·exact dk2 m
 ·exact dk3 m
 ·exact dk4 m
 ·exact dk5 m
 ·exact dk6 m
set_option maxRecDepth 100000 in
theorem dk_go : Ev (fun n=>ref1_declKind n k_go) 0:=by
 refine ⟨20,fun n hn=>?_⟩
 obtain ⟨m,rfl⟩ : ∃ m,n = m + 20:=⟨n - 20,by omega⟩
 kernel_rfl
section
variable {T : List Token}
theorem declsK (g : GoodT T) (s : ByteArray) (hs : s.size ≤ 6000) (r1 : List Token × Int × Int) : ∀ (l : List Decl) (at_ : Nat) (b : Int) (acc : List Decl) (r : List Key),(∀ d ∈ l,rdD2 d) → acc.length + l.length ≤ 23 → Vw T at_ (tkDs l ++ ((1,k_go,0) :: r)) →
  ∃ l',EvJ (fun n J=>ref1_Parse_L0 n s r1 (un0 J) T (at_ : Int) false b acc) (T,((at_ + (tkDs l).length : Nat) : Int),false,b,acc ++ l') ∧ l'.map erd = l.map erd
 | [],at_,b,acc,r,hd,hn,hv=>by
  have hv' : Vw T at_ ((1,k_go,0) :: r):=hv
  obtain ⟨⟨p,h1⟩,h2,h3⟩:=Vw.cons hv'
  refine ⟨[],EvJ.step (EvJ.of_eq (g:=fun n J=>(ref1_declKind n k_go).bind fun r17=>bif decide (r17 > 0) then ref1_Parse_L0 (n + 1) s r1 (un0 J) T (at_ : Int) false b acc else J (T,(at_ : Int),false,b,acc)) (fun n J=>?_) (EvJ.bind dk_go ?_)),rfl⟩
  ·have e1 : ((1 : Int) == 1) = true:=rfl
   cases hkk : ref1_declKind n k_go with
   | none=>simp only [ref1_Parse_L0,jn,Bool.not_false,cond_true,h1,Option.bind_some,e1,hkk,Option.bind_none]
   | some r17 =>
    simp only [Option.bind_some]
    by_cases h17 : r17 > 0
    ·simp only [decide_eq_true h17,cond_true]
    ·simp only [ref1_Parse_L0,jn,Bool.not_false,cond_true,h1,Option.bind_some,e1,hkk,decide_eq_false h17,cond_false]
  ·rw [List.append_nil]; exact EvJ.now _
 | d :: l,at_,b,acc,r,hd,hn,hv=>by
  obtain ⟨a1,a2,a3,a4,a5,a6⟩:=hd d (by simp)
  have hv' : Vw T at_ ((1,kwD d.Kind,0) :: (1,d.Name,0) :: ((bif (d.Kind == 6) then [(2,dg d.N,d.N)] else []) ++ (tkDs l ++ ((1,k_go,0) :: r)))):=by
   rw [tkDs,tkD] at hv; simpa using hv
  obtain ⟨⟨p,h1⟩,h2,h3⟩:=Vw.cons hv'
  obtain ⟨_,h4,h5⟩:=Vw.cons h3
  have e1 : ((1 : Int) == 1) = true:=rfl
  have hkd:=dk_ev d.Kind a1 a2
  have dpos : decide (d.Kind > 0) = true:=decide_eq_true (by omega)
  have e24 : (ln acc == 24) = false:=beq_eq_false_iff_ne.2 (by show ((acc.length : Nat) : Int) ≠ 24; simp at hn; omega)
  obtain ⟨z,hz,_⟩:=place_ev s hs p
  have k1:=name_k g h3 a6 b
  have rm : ∀ d : Decl,room s_Decl.i1.bytes acc.length [d].length = true:=fun d=>room_of (by
   have : s_Decl.i1.bytes = 48:=rfl
   rw [this]; simp only [List.length_singleton]; simp at hn; omega)
  have head : ∀ n (J : St0 → Option (Prog × Int × Int)),ref1_Parse_L0 (n + 1) s r1 (un0 J) T (at_ : Int) false b acc = (ref1_declKind n (kwD d.Kind)).bind fun r17=>bif decide (r17 > 0) then (ref1_declKind n (kwD d.Kind)).bind fun r20=>(ref1_Place n s p).bind fun r22=>(ref1_Reader_name n ⟨T,((at_ + 1 : Nat) : Int),false,b⟩).bind fun r23 =>
    bif (r20 == 6) then (ref1_Reader_number n r23.2 3).bind fun r27=>(bif room s_Decl.i1.bytes acc.length [(Decl.mk r20 r23.1 r27.1 r22)].length then ref1_Parse_L0 n s r1 (un0 J) r27.2.T r27.2.At r27.2.Fail r27.2.Bad (acc ++ [(Decl.mk r20 r23.1 r27.1 r22)]) else none)
    else (bif room s_Decl.i1.bytes acc.length [(Decl.mk r20 r23.1 0 r22)].length then ref1_Parse_L0 n s r1 (un0 J) r23.2.T r23.2.At r23.2.Fail r23.2.Bad (acc ++ [(Decl.mk r20 r23.1 0 r22)]) else none) else J (T,(at_ : Int),false,b,acc):=by
   intro n J
   simp only [ref1_Parse_L0,jn,Bool.not_false,cond_true,h1,Option.bind_some,e1,e24,cond_false,wrT g h2]
  cases h6 : (d.Kind == 6)
  ·rw [h6,cond_false,List.nil_append] at h5
   have hN:=a5 (by simpa using h6)
   obtain ⟨l',n1,n2⟩:=declsK g s hs r1 l (at_ + 1 + 1) b (acc ++ [⟨d.Kind,d.Name,0,z⟩]) r (fun y hy=>hd y (by simp [hy])) (by simp at hn ⊢; omega) h5
   refine ⟨⟨d.Kind,d.Name,0,z⟩ :: l',EvJ.step (EvJ.of_eq head (EvJ.bind hkd ?_)),by rw [List.map_cons,List.map_cons,n2,erd,erd,hN]⟩
   simp only [dpos,cond_true]
   refine EvJ.bind hkd (EvJ.bind hz (EvJ.bind k1 ?_))
   simp only [h6,cond_false,rm,cond_true]
   rw [tkDs,tkD,h6,cond_false,List.length_append,List.length_cons,List.length_cons,List.length_nil,show at_ + (0 + 1 + 1 + (tkDs l).length) = at_ + 1 + 1 + (tkDs l).length by omega]
   rw [List.append_assoc,List.singleton_append] at n1
   exact n1
  ·rw [h6,cond_true,List.singleton_append] at h5
   have hN:=number_k g h5 (show d.N ≤ 3 from a4) b
   have h7:=(Vw.cons h5).2.2
   obtain ⟨l',n1,n2⟩:=declsK g s hs r1 l (at_ + 1 + 1 + 1) b (acc ++ [⟨d.Kind,d.Name,d.N,z⟩]) r (fun y hy=>hd y (by simp [hy])) (by simp at hn ⊢; omega) h7
   refine ⟨⟨d.Kind,d.Name,d.N,z⟩ :: l',EvJ.step (EvJ.of_eq head (EvJ.bind hkd ?_)),by rw [List.map_cons,List.map_cons,n2]; rfl⟩
   simp only [dpos,cond_true]
   refine EvJ.bind hkd (EvJ.bind hz (EvJ.bind k1 ?_))
   simp only [h6,cond_true,hN,Option.bind_some,rm]
   rw [tkDs,tkD,h6,cond_true,List.length_append,List.length_cons,List.length_cons,List.length_cons,List.length_nil,show at_ + (0 + 1 + 1 + 1 + (tkDs l).length) = at_ + 1 + 1 + 1 + (tkDs l).length by omega]
   rw [List.append_assoc,List.singleton_append] at n1
   exact n1
abbrev PEnd (T : List Token) (D : List Decl) : List Token → Int → Bool → Int → List (List Stmt) → Option (Prog × Int × Int):=fun l29 i30 b31 i32 l33=>bif b31 then (idx T i32).bind fun x49=>some (⟨[],[]⟩,x49.At,2) else some (⟨D,l33⟩,0,0)
theorem threadsK (g : GoodT T) (s : ByteArray) (hs : s.size ≤ 6000) (r1 : List Token × Int × Int) (l2 : List Token) (i3 : Int) (b4 : Bool) (i5 : Int) (l6 : List Decl) : ∀ (ts : List (List Stmt)) (at_ : Nat) (b : Int) (acc : List (List Stmt)),okTs ts → acc.length + ts.length ≤ 4 → 1 ≤ acc.length + ts.length → Vw T at_ (tkTs ts ++ [(4,b0,0)]) →
  ∃ ts',Ev (fun n=>ref1_Parse_L1 n s r1 l2 i3 b4 i5 l6 (PEnd T l6) T (at_ : Int) false b acc) (⟨l6,acc ++ ts'⟩,0,0) ∧ ts'.map ersL = ts.map ersL
 | [],at_,b,acc,ho,h4,h1',hv=>by
  have hv' : Vw T at_ [(4,b0,0)]:=hv
  obtain ⟨⟨p,h1⟩,h2,h3⟩:=Vw.cons hv'
  have e0 : (ln acc == 0) = false:=beq_eq_false_iff_ne.2 (by show ((acc.length : Nat) : Int) ≠ 0; simp at h1'; omega)
  have e1 : ((4 : Int) != 4) = false:=rfl
  refine ⟨[],Ev.step (Ev.of_eq (g:=fun n=>some (⟨l6,acc⟩,0,0)) (fun n=>?_) (by rw [List.append_nil]; exact Ev.ret _)),rfl⟩
  simp only [ref1_Parse_L1,jn,Bool.not_false,cond_true,cond_false,h1,Option.bind_some,e1,e0]
 | t :: ts,at_,b,acc,ho,h4,h1',hv=>by
  have hv' : Vw T at_ ((1,k_go,0) :: (3,x_7b,0) :: (tkB t ++ ((3,x_7d,0) :: (tkTs ts ++ [(4,b0,0)])))):=by rw [tkTs] at hv; simpa using hv
  obtain ⟨⟨p,h1⟩,h2,h3⟩:=Vw.cons hv'
  have e1 : ((1 : Int) != 4) = true:=rfl
  have e4 : (ln acc == 4) = false:=beq_eq_false_iff_ne.2 (by show ((acc.length : Nat) : Int) ≠ 4; simp at h4; omega)
  have w1 : ∀ n,ref1_Reader_word n ⟨T,(at_ : Int),false,b⟩ k_go = some true:=fun n=>word_k hv' b k_go n
  obtain ⟨o1,_⟩:=ho t (by simp)
  obtain ⟨l',k1,k2⟩:=block_k g ((reads_k g s hs).2 t) (dp:=1) b o1 (fun _=>by omega) (by omega) h3
  have h6 : Vw T (at_ + 1 + (1 + (tkB t).length + 1)) (tkTs ts ++ [(4,b0,0)]):=by
   have:=(Vw.cons ((Vw.cons h3).2.2.app)).2.2
   rw [show at_ + 1 + (1 + (tkB t).length + 1) = at_ + 1 + 1 + (tkB t).length + 1 by omega]; exact this
  obtain ⟨ts',n1,n2⟩:=threadsK g s hs r1 l2 i3 b4 i5 l6 ts (at_ + 1 + (1 + (tkB t).length + 1)) b (acc ++ [l']) (fun y hy=>ho y (by simp [hy])) (by simp at h4 ⊢; omega) (by simp; omega) h6
  have rm : room s_LStmt.i1.bytes acc.length [l'].length = true:=room_of (by
   have : s_LStmt.i1.bytes = 24:=rfl
   rw [this]; simp only [List.length_singleton]; simp at h4; omega)
  refine ⟨l' :: ts',Ev.step (Ev.of_eq (g:=fun n=>(ref1_Reader_block n ⟨T,((at_ + 1 : Nat) : Int),false,b⟩ s ((1 : Nat) : Int)).bind fun r47=>bif room s_LStmt.i1.bytes acc.length [r47.1].length then ref1_Parse_L1 n s r1 l2 i3 b4 i5 l6 (PEnd T l6) r47.2.T r47.2.At r47.2.Fail r47.2.Bad (acc ++ [r47.1]) else none) (fun n=>?_) (Ev.bind k1 ?_)),by rw [List.map_cons,List.map_cons,k2,n2]⟩
  ·simp only [ref1_Parse_L1,jn,Bool.not_false,Bool.not_true,cond_true,cond_false,h1,Option.bind_some,e1,e4,w1,wrT g h2]
   rfl
  ·simp only [rm,cond_true]
   rw [List.append_assoc,List.singleton_append] at n1
   exact n1
end
theorem round_ev (D : List Decl) (ts : List (List Stmt)) (hD : ∀ d ∈ D,rdD d ∧ rdD2 d) (hts : okTs ts) (hDn : D.length ≤ 23) (h1 : 1 ≤ ts.length) (hn : ts.length ≤ 4) (hs : 11 * D.length + wtT ts ≤ 6000) :
  ∃ w D' ts',Ev (fun n=>ref1_Show n ⟨D,ts⟩) w ∧ Ev (fun n=>ref1_Parse n w) (⟨D',ts'⟩,0,0) ∧ D'.map erd = D.map erd ∧ ts'.map ersL = ts.map ersL:=by
 obtain ⟨w,T0,s1,s2,s3,s4⟩:=ShowT_ev D ts (fun d hd=>(hD d hd).1) hts (by omega) hs
 obtain ⟨T,k,e,t1,t2⟩:=toks_ev w
 have hu:=Ev.unique t1 s2
 obtain ⟨rfl,rfl,rfl⟩ : T = T0 ++ [⟨4,b0,0,(w.size : Int)⟩] ∧ k = 0 ∧ e = 0:=by
  rw [Prod.mk.injEq,Prod.mk.injEq] at hu; exact hu
 obtain ⟨g,hsz⟩:=t2.resolve_left (fun h=>h rfl)
 have hv : Vw (T0 ++ [⟨4,b0,0,(w.size : Int)⟩]) 0 (tkDs D ++ (tkTs ts ++ [(4,b0,0)])):=by
  unfold Vw
  rw [List.drop_zero,List.map_append,s3,List.append_assoc]; rfl
 obtain ⟨r,hr⟩ : ∃ r,tkTs ts ++ [(4,b0,0)] = ((1,k_go,0) : Key) :: r:=by
  cases ts with
  | nil=>simp at h1
  | cons t q=>exact ⟨_,by rw [tkTs]; rfl⟩
 generalize T0 ++ [⟨4,b0,0,(w.size : Int)⟩] = T at *
 obtain ⟨D',d1,d2⟩:=declsK g w hsz (T,0,0) D 0 0 [] r (fun d hd=>(hD d hd).2) (by simpa using hDn) (by rw [← hr]; exact hv)
 obtain ⟨ts',e1,e2⟩:=threadsK g w hsz (T,0,0) T ((0 + (tkDs D).length : Nat) : Int) false 0 D' ts (0 + (tkDs D).length) 0 [] hts (by simpa using hn) (by simpa using h1) hv.app
 rw [List.nil_append] at d1 e1
 refine ⟨w,D',ts',s1,Ev.of_eq (g:=fun n=>(ref1_Tokens n w).bind fun r1=>bif (r1.2.2 != 0) then some (⟨[],[]⟩,r1.2.1,r1.2.2) else
  ref1_Parse_L0 n w r1 (un0 fun q=>ref1_Parse_L1 n w r1 q.1 q.2.1 q.2.2.1 q.2.2.2.1 q.2.2.2.2 (fun l29 i30 b31 i32 l33=>bif b31 then (idx r1.1 i32).bind fun x49=>some (⟨[],[]⟩,x49.At,2) else some (⟨q.2.2.2.2,l33⟩,0,0)) q.1 q.2.1 q.2.2.1 q.2.2.2.1 []) r1.1 0 false 0 []) (fun n=>by simp only [ref1_Parse,jn]) (Ev.bind s2 (Ev.no rfl ?_)),d2,e2⟩
 obtain ⟨k1,hk1⟩:=d1
 obtain ⟨k2,hk2⟩:=e1
 refine ⟨max k1 k2,fun n hn=>?_⟩
 have:=hk1 n (by omega) (fun q=>ref1_Parse_L1 n w (T,0,0) q.1 q.2.1 q.2.2.1 q.2.2.2.1 q.2.2.2.2 (fun l29 i30 b31 i32 l33=>bif b31 then (idx T i32).bind fun x49=>some (⟨[],[]⟩,x49.At,2) else some (⟨q.2.2.2.2,l33⟩,0,0)) q.1 q.2.1 q.2.2.1 q.2.2.2.1 [])
 exact this.trans (hk2 n (by omega))
theorem okDecls_rd {D : List Decl} (h : okDecls D) : (∀ d ∈ D,rdD d ∧ rdD2 d) ∧ D.length = 8:=by
 obtain ⟨k0,k1,r,hk,r0,r1,rfl⟩:=h
 refine ⟨fun d hd=>?_,rfl⟩
 have nk : ∀ w ∈ [k_x,k_y,k_z,k_a,k_t,k_c,k_d,k_l,k_k,k_m],NoKw w:=noKw5
 simp only [List.mem_cons,List.not_mem_nil,or_false] at hd
 have five : ∀ (k n : Int) (w : ByteArray),1 ≤ k → k ≤ 6 → 0 ≤ n → n ≤ 3 → (k ≠ 6 → n = 0) → w.size = 1 ∧ Ch w [(1,w,0)] → w ∈ [k_x,k_y,k_z,k_a,k_t,k_c,k_d,k_l,k_k,k_m] → rdD ⟨k,w,n,c0⟩ ∧ rdD2 ⟨k,w,n,c0⟩ :=
  fun k n w h1 h2 h3 h4 h5 h6 h7=>⟨⟨h1,h2,h3,by show n ≤ 9; omega,h6.1,h6.2⟩,⟨h1,h2,h3,h4,h5,nk w h7⟩⟩
 rcases hd with rfl | rfl | rfl | rfl | rfl | rfl | rfl | rfl
 ·exact five k0 0 k_x (by omega) (by omega) (by omega) (by omega) (by omega) (nm5 k_x (by simp)) (by simp)
 ·exact five k1 0 k_y (by omega) (by omega) (by omega) (by omega) (by omega) (nm5 k_y (by simp)) (by simp)
 ·exact five 2 0 k_z (by omega) (by omega) (by omega) (by omega) (by omega) (nm5 k_z (by simp)) (by simp)
 ·exact five 3 0 k_a (by omega) (by omega) (by omega) (by omega) (by omega) (nm5 k_a (by simp)) (by simp)
 ·exact five 4 0 k_t (by omega) (by omega) (by omega) (by omega) (by omega) (nm5 k_t (by simp)) (by simp)
 ·exact five 5 0 k_m (by omega) (by omega) (by omega) (by omega) (by omega) nmm (by simp)
 ·exact five 6 r k_c (by omega) (by omega) (by omega) (by omega) (by omega) (nm2 k_c (by simp)) (by simp)
 ·exact five 6 0 k_d (by omega) (by omega) (by omega) (by omega) (by omega) (nm2 k_d (by simp)) (by simp)
theorem wtT_le : ∀ ts : List (List Stmt),okTs ts → wtT ts ≤ 2567 * ts.length
 | [],_=>by simp [wtT]
 | t :: r,h=>by
  have:=wtT_le r fun y hy=>h y (by simp [hy])
  have:=(h t (by simp)).2
  rw [wtT,List.length_cons]; omega
end Go.Su.Ytepcmciljmennaa
namespace Go.Su.Ytepcmciljmennaa
open Go.Mx Go.Proofs
set_option linter.unusedVariables false
set_option linter.unusedSimpArgs false
set_option maxHeartbeats 4000000
theorem prog2_ev (how : Int) (a b : List Act) (most : Int) (hm : most ≤ 100) :
  ∃ D ts,Ev (fun n=>hand_Prog n how a b [] most) ⟨D,ts⟩ ∧ okDecls D ∧ okTs ts ∧ ts.length = 2:=by
 obtain ⟨D,hD,oD⟩:=decls_ev how
 obtain ⟨a',ha,la⟩:=acts_ev a
 obtain ⟨b',hb,lb⟩:=acts_ev b
 obtain ⟨ta,xa,ea,oa,wa⟩:=stmts_ev a' la most hm
 obtain ⟨tb,xb,eb,ob,wb⟩:=stmts_ev b' lb most hm
 have i0 : idx [a,b,([] : List Act)] 0 = some a:=rfl
 have i1 : idx [a,b,([] : List Act)] 1 = some b:=rfl
 have i2 : idx [a,b,([] : List Act)] 2 = some []:=rfl
 have w1 : wr (0 + 1) = 1:=rfl
 have w2 : wr (1 + 1) = 2:=rfl
 have g0 : ∀ t : List Stmt,room s_LStmt.i1.bytes ([] : List (List Stmt)).length [t].length = true:=fun t=>rfl
 have g1 : ∀ t u : List Stmt,room s_LStmt.i1.bytes (([] : List (List Stmt)) ++ [t]).length [u].length = true:=fun t u=>rfl
 refine ⟨D,[ta,tb],?_,oD,fun t ht=>?_,rfl⟩
 ·refine Ev.of_eq (g:=fun n=>hand_Prog_L0 n how a b [] most D (fun l2=>some (Prog.mk D l2)) [] 0) (fun n=>by simp only [hand_Prog,hD,jn,Option.bind_some]) ?_
  refine Ev.step (Ev.of_eq (g:=fun n=>(hand_stmts n a' most 1).bind fun r10=>hand_Prog_L0 n how a b [] most D (fun l2=>some (Prog.mk D l2)) ([] ++ [r10.1]) 1) (fun n=>?_) (Ev.bind ea ?_))
  ·simp only [hand_Prog_L0,i0,ha,jn,Option.bind_some,g0,cond_true,w1]; rfl
  refine Ev.step (Ev.of_eq (g:=fun n=>(hand_stmts n b' most 1).bind fun r10=>hand_Prog_L0 n how a b [] most D (fun l2=>some (Prog.mk D l2)) ([] ++ [ta] ++ [r10.1]) 2) (fun n=>?_) (Ev.bind eb ?_))
  ·simp only [hand_Prog_L0,i1,hb,jn,Option.bind_some,g1,cond_true,w2]; rfl
  refine Ev.step (Ev.of_eq (g:=fun n=>some ⟨D,[ta,tb]⟩) (fun n=>?_) (Ev.ret _))
  simp only [hand_Prog_L0,i2,jn,Option.bind_some]
  rfl
 ·simp only [List.mem_cons,List.not_mem_nil,or_false] at ht
  rcases ht with rfl | rfl
  ·exact ⟨oa,wa⟩
  ·exact ⟨ob,wb⟩
end Go.Su.Ytepcmciljmennaa
namespace Go.Su.Ytepcmciljmennaa
open Go.Mx Go.Proofs
set_option linter.unusedVariables false
set_option linter.unusedSimpArgs false
set_option maxHeartbeats 4000000
theorem fixed2_L0 (a0 : Prog) (D : List Decl) : ∀ (m i : Nat),40 - i ≤ m → i ≤ 40 → ∀ ts,okTs ts → ts.length = 2 → ∃ ts',Ev (fun n=>hand_fixed_L0 n a0 ⟨D,ts⟩ (i : Int)) ⟨D,ts'⟩ ∧ okTs ts' ∧ 1 ≤ ts'.length ∧ ts'.length ≤ 2
 | 0,i,h1,h2,ts,ho,hl=>by
  have d1 : decide ((i : Int) < 40) = false:=decide_eq_false (by omega)
  exact ⟨[[]],Ev.step (Ev.of_eq (g:=fun n=>some ⟨D,[[]]⟩) (fun n=>by simp only [hand_fixed_L0,d1,cond_false]) (Ev.ret _)),fun t ht=>by
   rw [List.mem_singleton] at ht; subst ht
   exact ⟨by rw [okSl]; trivial,by rw [wtl]; omega⟩,by simp,by simp⟩
 | m + 1,i,h1,h2,ts,ho,hl=>by
  by_cases hi : i < 40
  ·have d1 : decide ((i : Int) < 40) = true:=decide_eq_true (by omega)
   have e3 : wr ((i : Int) + 1) = ((i + 1 : Nat) : Int):=by rw [wr_of (by omega)]; rfl
   have hz:=szT_ok ts ho
   obtain ⟨ts1,k1,k2,k3,k4⟩:=mark_ev D ts (by omega) (by omega)
   obtain ⟨r,k5,k6⟩:=Jumps_ev D ts1 (by omega) (by omega) k2
   cases c : (r.2 == 0)
   ·obtain ⟨k,hk,hr⟩ : ∃ k : Nat,k ≤ 3000 ∧ r.1.re = FloatKind.f64.nearest (k : Int):=by
     rcases k6 with h | h
     ·rw [h] at c; cases c
     ·exact h
    have hf : f2i r.1.re = some (k : Int):=by rw [hr]; exact f2i_of k hk
    obtain ⟨ts2,k7,k8,k9⟩:=without_L0 D ts (k : Int) ts [] [] 0 rfl (by omega) (by simp; omega) ho (fun t ht=>by simp at ht)
    have hwo : Ev (fun n=>hand_without n ⟨D,ts⟩ (k : Int)) ⟨D,ts2⟩:=Ev.of_eq (fun n=>by simp only [hand_without]; rfl) k7
    obtain ⟨ts3,q1,q2⟩:=fixed2_L0 a0 D m (i + 1) (by omega) (by omega) ts2 k8 (by rw [k9]; simpa using hl)
    refine ⟨ts3,Ev.step (Ev.of_eq (g:=fun n=>(hand_mark n ⟨D,ts⟩).bind fun r3=>(ref8_Jumps n r3).bind fun r4=>bif (r4.2 == 0) then some ⟨D,ts⟩ else (f2i r4.1.re).bind fun x5=>(hand_without n ⟨D,ts⟩ x5).bind fun r6=>hand_fixed_L0 n a0 r6 ((i + 1 : Nat) : Int)) (fun n=>?_) (Ev.bind k1 (Ev.bind k5 (Ev.no c (Ev.opt hf (Ev.bind hwo q1)))))),q2⟩
    simp only [hand_fixed_L0,d1,cond_true,e3]
   ·refine ⟨ts,Ev.step (Ev.of_eq (g:=fun n=>(hand_mark n ⟨D,ts⟩).bind fun r3=>(ref8_Jumps n r3).bind fun r4=>bif (r4.2 == 0) then some ⟨D,ts⟩ else (f2i r4.1.re).bind fun x5=>(hand_without n ⟨D,ts⟩ x5).bind fun r6=>hand_fixed_L0 n a0 r6 ((i + 1 : Nat) : Int)) (fun n=>?_) (Ev.bind k1 (Ev.bind k5 (Ev.yes c (Ev.ret _))))),ho,by omega,by omega⟩
    simp only [hand_fixed_L0,d1,cond_true,e3]
  ·exact fixed2_L0 a0 D m i (by omega) h2 ts ho hl
theorem Good2_ev (how : Int) (a b : List Act) (most : Int) (hm : most ≤ 100) : ∃ w D D' ts ts',Ev (fun n=>hand_Good n how a b [] most) w ∧ Ev (fun n=>ref1_Parse n w) (⟨D',ts'⟩,0,0) ∧ okDecls D ∧ okTs ts ∧ D'.map erd = D.map erd ∧ ts'.map ersL = ts.map ersL:=by
 obtain ⟨D,ts,hp,oD,ots,hlen⟩:=prog2_ev how a b most hm
 obtain ⟨ts',hf,ots',l1,l2⟩:=fixed2_L0 ⟨D,ts⟩ D 40 0 (by omega) (by omega) ts ots hlen
 obtain ⟨rD,lD⟩:=okDecls_rd oD
 have hw:=wtT_le ts' ots'
 obtain ⟨w,D',ts'',h1,h2,h3,h4⟩:=round_ev D ts' rD ots' (by omega) l1 (by omega) (by omega)
 have hfx : Ev (fun n=>hand_fixed n ⟨D,ts⟩) ⟨D,ts'⟩:=Ev.of_eq (fun n=>by simp only [hand_fixed]; rfl) hf
 exact ⟨w,D,D',ts',ts'',Ev.of_eq (g:=fun n=>(hand_Prog n how a b [] most).bind fun r1=>(hand_fixed n r1).bind fun r2=>(ref1_Show n r2).bind fun r3=>some r3) (fun n=>by simp only [hand_Good]) (Ev.bind hp (Ev.bind hfx (Ev.bind h1 (Ev.ret _)))),h2,oD,ots',h3,h4⟩
end Go.Su.Ytepcmciljmennaa
