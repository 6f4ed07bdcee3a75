/-
  RankRises: what its code computes is true.
-/
import Derived.Test.YtkmcnajbhclimaaZrPlTok
import Derived.Test.YtkmcnajbhclimaaZrPlWrp
import Derived.Test.YtkmcnajbhclimaaZrPlShow
import Derived.Test.YtkmcnajbhclimaaZrHRm
namespace Go.Su.Ytkmcnajbhclimaa
open Go.Mx Go.Proofs
set_option linter.unusedVariables false
set_option linter.unusedSimpArgs false
set_option maxHeartbeats 8000000
def okB (T : List Token) (f : Bool) (b : Int) : Prop:=f = true → ∃ k : Nat,b = k ∧ k < T.length
def Rd {α : Type} (T : List Token) (f : Nat → Option (α × Reader)) (at0 : Nat) (f0 : Bool) (P : α → Nat → Bool → Prop) : Prop :=
 ∃ x at_ f1 b,Ev f (x,⟨T,(at_ : Nat),f1,b⟩) ∧ at0 ≤ at_ ∧ at_ < T.length ∧ okB T f1 b ∧ (f0 = true → f1 = true) ∧ P x at_ f1
section
variable {T : List Token}
theorem idxT {at_ : Nat} (h : at_ < T.length) : ∃ t,idx T (at_ : Int) = some t ∧ T[at_]? = some t :=
 ⟨T[at_],idx_of (by omega) (by rw [Int.toNat_natCast]; exact List.getElem?_eq_getElem h),List.getElem?_eq_getElem h⟩
theorem wrT {at_ : Nat} (g : GoodT T) (h : at_ < T.length) : wr ((at_ : Int) + 1) = ((at_ + 1 : Nat) : Int):=by have:=g.len; rw [wr_of (by omega)]; rfl
theorem fail_ev {at_ : Nat} {f : Bool} {b : Int} (h : at_ < T.length) (hb : okB T f b) : ∃ b',(∀ n,ref1_Reader_fail n ⟨T,(at_ : Int),f,b⟩ = some ⟨T,(at_ : Int),true,b'⟩) ∧ okB T true b':=by
 cases f
 ·exact ⟨(at_ : Int),fun n=>rfl,fun _=>⟨at_,rfl,h⟩⟩
 ·exact ⟨b,fun n=>rfl,hb⟩
theorem sign_ev (w : ByteArray) {at_ : Nat} {f : Bool} {b : Int} (h : at_ < T.length) : ∃ r,(∀ n,ref1_Reader_sign n ⟨T,(at_ : Int),f,b⟩ w = some r) ∧ (r = true → f = false ∧ ∃ t,T[at_]? = some t ∧ t.Kind = 3):=by
 obtain ⟨t,h1,h2⟩:=idxT h
 cases f
 ·by_cases hk : t.Kind = 3
  ·refine ⟨bytesEq t.Text w,fun n=>?_,fun _=>⟨rfl,t,h2,hk⟩⟩
   have : (t.Kind == 3) = true:=by simpa using hk
   simp only [ref1_Reader_sign,jn,Bool.not_false,cond_true,h1,Option.bind_some,this]
  ·refine ⟨false,fun n=>?_,fun h=>by simp at h⟩
   have : (t.Kind == 3) = false:=by simpa using hk
   simp only [ref1_Reader_sign,jn,Bool.not_false,cond_true,h1,Option.bind_some,this,cond_false]
 ·exact ⟨false,fun n=>rfl,fun h=>by simp at h⟩
theorem word_ev (w : ByteArray) {at_ : Nat} {f : Bool} {b : Int} (h : at_ < T.length) : ∃ r,(∀ n,ref1_Reader_word n ⟨T,(at_ : Int),f,b⟩ w = some r) ∧ (r = true → f = false ∧ ∃ t,T[at_]? = some t ∧ t.Kind = 1):=by
 obtain ⟨t,h1,h2⟩:=idxT h
 cases f
 ·by_cases hk : t.Kind = 1
  ·refine ⟨bytesEq t.Text w,fun n=>?_,fun _=>⟨rfl,t,h2,hk⟩⟩
   have : (t.Kind == 1) = true:=by simpa using hk
   simp only [ref1_Reader_word,jn,Bool.not_false,cond_true,h1,Option.bind_some,this]
  ·refine ⟨false,fun n=>?_,fun h=>by simp at h⟩
   have : (t.Kind == 1) = false:=by simpa using hk
   simp only [ref1_Reader_word,jn,Bool.not_false,cond_true,h1,Option.bind_some,this,cond_false]
 ·exact ⟨false,fun n=>rfl,fun h=>by simp at h⟩
theorem must_ev (g : GoodT T) (w : ByteArray) {at_ : Nat} {f : Bool} {b : Int} (h : at_ < T.length) (hb : okB T f b) :
  ∃ at' f' b',(∀ n,ref1_Reader_must n ⟨T,(at_ : Int),f,b⟩ w = some ⟨T,(at' : Nat),f',b'⟩) ∧ at_ ≤ at' ∧ at' < T.length ∧ okB T f' b' ∧ (f = true → f' = true) ∧ (f' = false → at_ + 1 ≤ at'):=by
 obtain ⟨r,h1,h2⟩:=sign_ev w (f:=f) (b:=b) h
 cases r
 ·obtain ⟨b',h3,h4⟩:=fail_ev h hb
  exact ⟨at_,true,b',fun n=>by simp only [ref1_Reader_must,h1,Option.bind_some,Bool.not_false,cond_true,h3],Nat.le_refl _,h,h4,fun _=>rfl,fun e=>by simp at e⟩
 ·obtain ⟨hf,t,h3,h4⟩:=h2 rfl
  have:=g.last at_ t h3 (by omega)
  exact ⟨at_ + 1,f,b,fun n=>by simp only [ref1_Reader_must,h1,Option.bind_some,Bool.not_true,cond_false,wrT g h],by omega,this,hb,id,fun _=>Nat.le_refl _⟩
theorem name_ev (g : GoodT T) {at_ : Nat} {f : Bool} {b : Int} (h : at_ < T.length) (hb : okB T f b) : Rd T (fun n=>ref1_Reader_name n ⟨T,(at_ : Int),f,b⟩) at_ f (fun _ _ _=>True):=by
 obtain ⟨b',h3,h4⟩:=fail_ev h hb
 have bad : ∀ (F : Nat → Option (ByteArray × Reader)),(∀ n,F n = some (b0,⟨T,(at_ : Int),true,b'⟩)) → Rd T F at_ f (fun _ _ _=>True):=fun F hF=>⟨b0,at_,true,b',Ev.of_eq hF (Ev.ret _),Nat.le_refl _,h,h4,fun _=>rfl,trivial⟩
 cases f
 ·obtain ⟨t,h1,h2⟩:=idxT h
  by_cases hk : t.Kind = 1
  ·have e1 : (t.Kind != 1) = false:=by simpa using hk
   obtain ⟨kb,hkb⟩:=keyword_ev t.Text
   have e2 : wr (((at_ + 1 : Nat) : Int) - 1) = (at_ : Int):=by have:=g.len; rw [wr_of (by omega)]; omega
   cases kb
   ·refine ⟨t.Text,at_ + 1,false,b,Ev.of_eq (g:=fun n=>(ref1_Keyword n t.Text).bind fun r5=>bif r5 then (ref1_Reader_fail n ⟨T,(at_ : Int),false,b⟩).bind fun r6=>some (b0,r6) else some (t.Text,⟨T,((at_ + 1 : Nat) : Int),false,b⟩)) (fun n=>?_) (Ev.bind hkb (Ev.no rfl (Ev.ret _))),by omega,g.last _ t h2 (by omega),hb,id,trivial⟩
    simp only [ref1_Reader_name,jn,cond_false,h1,Option.bind_some,e1,wrT g h,e2]
   ·refine ⟨b0,at_,true,b',Ev.of_eq (g:=fun n=>(ref1_Keyword n t.Text).bind fun r5=>bif r5 then (ref1_Reader_fail n ⟨T,(at_ : Int),false,b⟩).bind fun r6=>some (b0,r6) else some (t.Text,⟨T,((at_ + 1 : Nat) : Int),false,b⟩)) (fun n=>?_) (Ev.bind hkb ?_),Nat.le_refl _,h,h4,fun _=>rfl,trivial⟩
    ·simp only [ref1_Reader_name,jn,cond_false,h1,Option.bind_some,e1,wrT g h,e2]
    ·simp only [cond_true,h3,Option.bind_some]; exact Ev.ret _
  ·have e1 : (t.Kind != 1) = true:=by simpa using hk
   exact bad _ fun n=>by simp only [ref1_Reader_name,jn,cond_false,h1,Option.bind_some,e1,cond_true,h3]
 ·exact bad _ fun n=>by simp only [ref1_Reader_name,jn,cond_true,h3,Option.bind_some]
theorem number_r (g : GoodT T) (most : Int) (hm : 0 ≤ most) {at_ : Nat} {f : Bool} {b : Int} (h : at_ < T.length) (hb : okB T f b) : Rd T (fun n=>ref1_Reader_number n ⟨T,(at_ : Int),f,b⟩ most) at_ f (fun x _ _=>0 ≤ x ∧ x ≤ most):=by
 obtain ⟨b',h3,h4⟩:=fail_ev h hb
 have bad : ∀ (F : Nat → Option (Int × Reader)),(∀ n,F n = some (0,⟨T,(at_ : Int),true,b'⟩)) → Rd T F at_ f (fun x _ _=>0 ≤ x ∧ x ≤ most):=fun F hF=>⟨0,at_,true,b',Ev.of_eq hF (Ev.ret _),Nat.le_refl _,h,h4,fun _=>rfl,Int.le_refl _,hm⟩
 cases f
 ·obtain ⟨t,h1,h2⟩:=idxT h
  by_cases hk : t.Kind = 2
  ·have e1 : (t.Kind != 2) = false:=by simpa using hk
   have e2 : wr (((at_ + 1 : Nat) : Int) - 1) = (at_ : Int):=by have:=g.len; rw [wr_of (by omega)]; omega
   by_cases hn : t.N > most
   ·exact bad _ fun n=>by simp only [ref1_Reader_number,jn,cond_false,h1,Option.bind_some,e1,decide_eq_true hn,cond_true,h3]
   ·refine ⟨t.N,at_ + 1,false,b,Ev.of_eq (g:=fun n=>some (t.N,⟨T,((at_ + 1 : Nat) : Int),false,b⟩)) (fun n=>?_) (Ev.ret _),by omega,g.last _ t h2 (by omega),hb,id,g.num t (List.mem_of_getElem? h2),by omega⟩
    simp only [ref1_Reader_number,jn,cond_false,h1,Option.bind_some,e1,wrT g h,e2,decide_eq_false hn]
  ·have e1 : (t.Kind != 2) = true:=by simpa using hk
   exact bad _ fun n=>by simp only [ref1_Reader_number,jn,cond_false,h1,Option.bind_some,e1,cond_true,h3]
 ·exact bad _ fun n=>by simp only [ref1_Reader_number,jn,cond_true,h3,Option.bind_some]
def PE (at0 : Nat) (e : Expr) (at_ : Nat) (_ : Bool) : Prop:=szE e ≤ 2 * (at_ - at0) + 1
def RF (T : List Token) (k : Nat) : Prop:=∀ (at_ : Nat) f b (d : Nat),at_ < T.length → T.length - at_ ≤ k → okB T f b → d ≤ 8 → Rd T (fun n=>ref1_Reader_factor n ⟨T,(at_ : Int),f,b⟩ (d : Int)) at_ f (PE at_)
def RT (T : List Token) (k : Nat) : Prop:=∀ (at_ : Nat) f b (d : Nat),at_ < T.length → T.length - at_ ≤ k → okB T f b → d ≤ 8 → Rd T (fun n=>ref1_Reader_term n ⟨T,(at_ : Int),f,b⟩ (d : Int)) at_ f (PE at_)
def RS (T : List Token) (k : Nat) : Prop:=∀ (at_ : Nat) f b (d : Nat),at_ < T.length → T.length - at_ ≤ k → okB T f b → d ≤ 8 → Rd T (fun n=>ref1_Reader_sum n ⟨T,(at_ : Int),f,b⟩ (d : Int)) at_ f (PE at_)
def RE (T : List Token) (k : Nat) : Prop:=∀ (at_ : Nat) f b (d : Nat),at_ < T.length → T.length - at_ ≤ k → okB T f b → d ≤ 8 → Rd T (fun n=>ref1_Reader_expr n ⟨T,(at_ : Int),f,b⟩ (d : Int)) at_ f (PE at_)
def RTL (T : List Token) (k : Nat) : Prop:=∀ (at_ : Nat) f b (d : Nat) a0 r1 w e,at_ < T.length → T.length - at_ ≤ k → okB T f b → d ≤ 8 →
 Rd T (fun n=>ref1_Reader_term_L0 n a0 (d : Int) r1 (fun _ v3 v4=>some (v3,v4)) ⟨T,(at_ : Int),f,b⟩ w e) at_ f (fun x at' _=>szE x ≤ szE e + 2 * (at' - at_))
def RSL (T : List Token) (k : Nat) : Prop:=∀ (at_ : Nat) f b (d : Nat) a0 r1 w e,at_ < T.length → T.length - at_ ≤ k → okB T f b → d ≤ 8 →
 Rd T (fun n=>ref1_Reader_sum_L0 n a0 (d : Int) r1 (fun _ v3 v4=>some (v3,v4)) ⟨T,(at_ : Int),f,b⟩ w e) at_ f (fun x at' _=>szE x ≤ szE e + 2 * (at' - at_))
theorem szE_bin (k : Int) (x y : Expr) : szE ⟨k,0,b0,[x,y]⟩ = 1 + szE x + szE y:=by rw [szE_mk,szEl,szEl,szEl]; omega
theorem szE_un (k : Int) (x : Expr) : szE ⟨k,0,b0,[x]⟩ = 1 + szE x:=by rw [szE_mk,szEl,szEl]; omega
theorem szE_leaf (k m : Int) (w : ByteArray) : szE ⟨k,m,w,[]⟩ = 1:=by rw [szE_mk,szEl]
theorem tl_step (g : GoodT T) (k : Nat) (hF : RF T (k - 1)) (hL : RTL T (k - 1)) : RTL T k:=by
 intro at_ f b d a0 r1 w e h hk hb hd
 have stop : ∀ F : Nat → Option (Expr × Reader),(∀ n,F n = some (e,⟨T,(at_ : Int),f,b⟩)) → Rd T F at_ f (fun x at' _=>szE x ≤ szE e + 2 * (at' - at_)):=fun F hF=>⟨e,at_,f,b,Ev.of_eq hF (Ev.ret _),Nat.le_refl _,h,hb,id,by omega⟩
 cases f
 ·obtain ⟨r12,s1,s1'⟩:=sign_ev x_2a (f:=false) (b:=b) h
  obtain ⟨r13,s2,s2'⟩:=sign_ev x_2f (f:=false) (b:=b) h
  obtain ⟨r14,s3,s3'⟩:=sign_ev x_25 (f:=false) (b:=b) h
  have go : ∀ kind : Int,(kind == 0) = false → (∃ t,T[at_]? = some t ∧ t.Kind = 3) → ∀ F : Nat → Option (Expr × Reader),
    (∀ n,F (n + 1) = (ref1_Reader_factor n ⟨T,((at_ + 1 : Nat) : Int),false,b⟩ (d : Int)).bind fun r15=>ref1_Reader_term_L0 n a0 (d : Int) r1 (fun _ v3 v4=>some (v3,v4)) r15.2 w ⟨kind,0,b0,[e,r15.1]⟩) → Rd T F at_ false (fun x at' _=>szE x ≤ szE e + 2 * (at' - at_)):=by
   intro kind _ ht F hFn
   obtain ⟨t,t1,t2⟩:=ht
   have hlt:=g.last at_ t t1 (by omega)
   obtain ⟨x,at1,f1,b1,k1,k2,k3,k4,k5,k6⟩:=hF (at_ + 1) false b d hlt (by omega) hb hd
   obtain ⟨y,at2,f2,b2,l1,l2,l3,l4,l5,l6⟩:=hL at1 f1 b1 d a0 r1 w ⟨kind,0,b0,[e,x]⟩ k3 (by omega) k4 hd
   refine ⟨y,at2,f2,b2,Ev.step (Ev.of_eq hFn (Ev.bind k1 l1)),by omega,l3,l4,fun e=>by simp at e,?_⟩
   unfold PE at k6
   rw [szE_bin] at l6
   omega
  cases r12
  ·cases r13
   ·cases r14
    ·refine ⟨e,at_,false,b,Ev.step (Ev.of_eq (g:=fun n=>some (e,⟨T,(at_ : Int),false,b⟩)) (fun n=>?_) (Ev.ret _)),Nat.le_refl _,h,hb,id,by omega⟩
     simp only [ref1_Reader_term_L0,jn,Bool.not_false,cond_true,s1,s2,s3,Option.bind_some,cond_false]; rfl
    ·exact go 8 rfl (s3' rfl).2 _ fun n=>by simp only [ref1_Reader_term_L0,jn,Bool.not_false,cond_true,s1,s2,s3,Option.bind_some,cond_false,wrT g h,ref1_binary]; rfl
   ·exact go 7 rfl (s2' rfl).2 _ fun n=>by simp only [ref1_Reader_term_L0,jn,Bool.not_false,cond_true,s1,s2,Option.bind_some,cond_false,wrT g h,ref1_binary]; rfl
  ·exact go 6 rfl (s1' rfl).2 _ fun n=>by simp only [ref1_Reader_term_L0,jn,Bool.not_false,cond_true,s1,Option.bind_some,wrT g h,ref1_binary]; rfl
 ·refine ⟨e,at_,true,b,Ev.step (Ev.of_eq (g:=fun n=>some (e,⟨T,(at_ : Int),true,b⟩)) (fun n=>?_) (Ev.ret _)),Nat.le_refl _,h,hb,id,by omega⟩
  simp only [ref1_Reader_term_L0,Bool.not_true,cond_false]
theorem sl_step (g : GoodT T) (k : Nat) (hF : RT T (k - 1)) (hL : RSL T (k - 1)) : RSL T k:=by
 intro at_ f b d a0 r1 w e h hk hb hd
 cases f
 ·obtain ⟨r12,s1,s1'⟩:=sign_ev x_2b (f:=false) (b:=b) h
  obtain ⟨r13,s2,s2'⟩:=sign_ev x_2d (f:=false) (b:=b) h
  have go : ∀ kind : Int,(kind == 0) = false → (∃ t,T[at_]? = some t ∧ t.Kind = 3) → ∀ F : Nat → Option (Expr × Reader),
    (∀ n,F (n + 1) = (ref1_Reader_term n ⟨T,((at_ + 1 : Nat) : Int),false,b⟩ (d : Int)).bind fun r15=>ref1_Reader_sum_L0 n a0 (d : Int) r1 (fun _ v3 v4=>some (v3,v4)) r15.2 w ⟨kind,0,b0,[e,r15.1]⟩) → Rd T F at_ false (fun x at' _=>szE x ≤ szE e + 2 * (at' - at_)):=by
   intro kind _ ht F hFn
   obtain ⟨t,t1,t2⟩:=ht
   have hlt:=g.last at_ t t1 (by omega)
   obtain ⟨x,at1,f1,b1,k1,k2,k3,k4,k5,k6⟩:=hF (at_ + 1) false b d hlt (by omega) hb hd
   obtain ⟨y,at2,f2,b2,l1,l2,l3,l4,l5,l6⟩:=hL at1 f1 b1 d a0 r1 w ⟨kind,0,b0,[e,x]⟩ k3 (by omega) k4 hd
   refine ⟨y,at2,f2,b2,Ev.step (Ev.of_eq hFn (Ev.bind k1 l1)),by omega,l3,l4,fun e=>by simp at e,?_⟩
   unfold PE at k6
   rw [szE_bin] at l6
   omega
  cases r12
  ·cases r13
   ·refine ⟨e,at_,false,b,Ev.step (Ev.of_eq (g:=fun n=>some (e,⟨T,(at_ : Int),false,b⟩)) (fun n=>?_) (Ev.ret _)),Nat.le_refl _,h,hb,id,by omega⟩
    simp only [ref1_Reader_sum_L0,jn,Bool.not_false,cond_true,s1,s2,Option.bind_some,cond_false]; rfl
   ·exact go 5 rfl (s2' rfl).2 _ fun n=>by simp only [ref1_Reader_sum_L0,jn,Bool.not_false,cond_true,s1,s2,Option.bind_some,cond_false,wrT g h,ref1_binary]; rfl
  ·exact go 4 rfl (s1' rfl).2 _ fun n=>by simp only [ref1_Reader_sum_L0,jn,Bool.not_false,cond_true,s1,Option.bind_some,wrT g h,ref1_binary]; rfl
 ·refine ⟨e,at_,true,b,Ev.step (Ev.of_eq (g:=fun n=>some (e,⟨T,(at_ : Int),true,b⟩)) (fun n=>?_) (Ev.ret _)),Nat.le_refl _,h,hb,id,by omega⟩
  simp only [ref1_Reader_sum_L0,Bool.not_true,cond_false]
theorem t_step (k : Nat) (hF : RF T k) (hL : RTL T k) : RT T k:=by
 intro at_ f b d h hk hb hd
 obtain ⟨x,at1,f1,b1,k1,k2,k3,k4,k5,k6⟩:=hF at_ f b d h hk hb hd
 obtain ⟨y,at2,f2,b2,l1,l2,l3,l4,l5,l6⟩:=hL at1 f1 b1 d ⟨T,(at_ : Int),f,b⟩ (x,⟨T,(at1 : Nat),f1,b1⟩) b0 x k3 (by omega) k4 hd
 refine ⟨y,at2,f2,b2,Ev.step (Ev.of_eq (g:=fun n=>(ref1_Reader_factor n ⟨T,(at_ : Int),f,b⟩ (d : Int)).bind fun r1=>ref1_Reader_term_L0 n ⟨T,(at_ : Int),f,b⟩ (d : Int) r1 (fun _ v3 v4=>some (v3,v4)) r1.2 b0 r1.1) (fun n=>by simp only [ref1_Reader_term,jn]) (Ev.bind k1 l1)),by omega,l3,l4,fun e=>l5 (k5 e),?_⟩
 unfold PE at k6 ⊢
 omega
theorem s_step (k : Nat) (hF : RT T k) (hL : RSL T k) : RS T k:=by
 intro at_ f b d h hk hb hd
 obtain ⟨x,at1,f1,b1,k1,k2,k3,k4,k5,k6⟩:=hF at_ f b d h hk hb hd
 obtain ⟨y,at2,f2,b2,l1,l2,l3,l4,l5,l6⟩:=hL at1 f1 b1 d ⟨T,(at_ : Int),f,b⟩ (x,⟨T,(at1 : Nat),f1,b1⟩) b0 x k3 (by omega) k4 hd
 refine ⟨y,at2,f2,b2,Ev.step (Ev.of_eq (g:=fun n=>(ref1_Reader_term n ⟨T,(at_ : Int),f,b⟩ (d : Int)).bind fun r1=>ref1_Reader_sum_L0 n ⟨T,(at_ : Int),f,b⟩ (d : Int) r1 (fun _ v3 v4=>some (v3,v4)) r1.2 b0 r1.1) (fun n=>by simp only [ref1_Reader_sum,jn]) (Ev.bind k1 l1)),by omega,l3,l4,fun e=>l5 (k5 e),?_⟩
 unfold PE at k6 ⊢
 omega
theorem e_step (g : GoodT T) (k : Nat) (hS : RS T k) (hS' : RS T (k - 1)) : RE T k:=by
 intro at_ f b d h hk hb hd
 obtain ⟨x,at1,f1,b1,k1,k2,k3,k4,k5,k6⟩:=hS at_ f b d h hk hb hd
 obtain ⟨r5,s1,s1'⟩:=sign_ev x_3c (f:=f1) (b:=b1) k3
 obtain ⟨r6,s2,s2'⟩:=sign_ev x_3d3d (f:=f1) (b:=b1) k3

 have fin : ∀ kind : Int,(f1 = false) → (∃ t,T[at1]? = some t ∧ t.Kind = 3) → ∃ y at2 f2 b2,Ev (fun n=>(ref1_Reader_sum n ⟨T,((at1 + 1 : Nat) : Int),f1,b1⟩ (d : Int)).bind fun r7=>(some (⟨kind,0,b0,[x,r7.1]⟩,r7.2) : Option (Expr × Reader))) (y,⟨T,(at2 : Nat),f2,b2⟩) ∧ at_ ≤ at2 ∧ at2 < T.length ∧ okB T f2 b2 ∧ (f = true → f2 = true) ∧ PE at_ y at2 f2:=by
  intro kind hf1 ht
  obtain ⟨t,t1,t2⟩:=ht
  have hlt:=g.last at1 t t1 (by omega)
  obtain ⟨y,at2,f2,b2,l1,l2,l3,l4,l5,l6⟩:=hS' (at1 + 1) f1 b1 d hlt (by omega) k4 hd
  refine ⟨_,at2,f2,b2,Ev.bind l1 (Ev.ret _),by omega,l3,l4,fun e=>l5 (k5 e),?_⟩
  unfold PE at k6 l6 ⊢
  simp only [szE_bin]; omega
 have G0 : ∀ n,ref1_Reader_expr (n + 1) ⟨T,(at_ : Int),f,b⟩ (d : Int) = (ref1_Reader_sum n ⟨T,(at_ : Int),f,b⟩ (d : Int)).bind fun r1=>(ref1_Reader_sign n r1.2 x_3c).bind fun r5=>bif r5 then
   (bif ((9 : Int) == 0) then some (r1.1,r1.2) else (ref1_Reader_sum n (Reader.mk r1.2.T (wr (r1.2.At + 1)) r1.2.Fail r1.2.Bad) (d : Int)).bind fun r7=>(ref1_binary n 9 r1.1 r7.1).bind fun r8=>some (r8,r7.2))
   else (ref1_Reader_sign n r1.2 x_3d3d).bind fun r6=>bif r6 then (bif ((10 : Int) == 0) then some (r1.1,r1.2) else (ref1_Reader_sum n (Reader.mk r1.2.T (wr (r1.2.At + 1)) r1.2.Fail r1.2.Bad) (d : Int)).bind fun r7=>(ref1_binary n 10 r1.1 r7.1).bind fun r8=>some (r8,r7.2))
   else (bif ((0 : Int) == 0) then some (r1.1,r1.2) else (ref1_Reader_sum n (Reader.mk r1.2.T (wr (r1.2.At + 1)) r1.2.Fail r1.2.Bad) (d : Int)).bind fun r7=>(ref1_binary n 0 r1.1 r7.1).bind fun r8=>some (r8,r7.2)):=fun n=>by simp only [ref1_Reader_expr,jn]
 have n9 : ((9 : Int) == 0) = false:=rfl
 have n10 : ((10 : Int) == 0) = false:=rfl
 have n0 : ((0 : Int) == 0) = true:=rfl
 cases r5
 ·cases r6
  ·refine ⟨x,at1,f1,b1,Ev.step (Ev.of_eq G0 (Ev.bind k1 ?_)),by omega,k3,k4,k5,k6⟩
   simp only [s1,s2,Option.bind_some,cond_false,n0,cond_true]; exact Ev.ret _
  ·obtain ⟨y,at2,f2,b2,l1,l2⟩:=fin 10 (s2' rfl).1 (s2' rfl).2
   refine ⟨y,at2,f2,b2,Ev.step (Ev.of_eq G0 (Ev.bind k1 ?_)),l2⟩
   simp only [s1,s2,Option.bind_some,cond_false,cond_true,n10,wrT g k3,ref1_binary]; exact l1
 ·obtain ⟨y,at2,f2,b2,l1,l2⟩:=fin 9 (s1' rfl).1 (s1' rfl).2
  refine ⟨y,at2,f2,b2,Ev.step (Ev.of_eq G0 (Ev.bind k1 ?_)),l2⟩
  simp only [s1,Option.bind_some,cond_true,cond_false,n9,wrT g k3,ref1_binary]; exact l1
theorem f_step (g : GoodT T) (k : Nat) (hF : RF T (k - 1)) (hE : RE T (k - 1)) : RF T k:=by
 intro at_ f b d h hk hb hd
 cases f
 case true =>
  exact ⟨_,at_,true,b,Ev.step (Ev.of_eq (g:=fun n=>some (⟨0,0,b0,[]⟩,⟨T,(at_ : Int),true,b⟩)) (fun n=>by simp only [ref1_Reader_factor,cond_true]) (Ev.ret _)),Nat.le_refl _,h,hb,id,by unfold PE; rw [szE_leaf]; omega⟩
 obtain ⟨t,h1,h2⟩:=idxT h
 obtain ⟨b',q3,q4⟩:=fail_ev (f:=false) h hb
 by_cases k2 : t.Kind = 2
 ·have e1 : (t.Kind == 2) = true:=by simpa using k2
  exact ⟨⟨1,t.N,b0,[]⟩,at_ + 1,false,b,Ev.step (Ev.of_eq (g:=fun n=>some (⟨1,t.N,b0,[]⟩,⟨T,((at_ + 1 : Nat) : Int),false,b⟩)) (fun n=>by simp only [ref1_Reader_factor,cond_false,h1,Option.bind_some,e1,cond_true,wrT g h]) (Ev.ret _)),by omega,g.last _ t h2 (by omega),hb,id,by unfold PE; rw [szE_leaf]; omega⟩
 have e1 : (t.Kind == 2) = false:=by simpa using k2
 obtain ⟨r8,s1,s1'⟩:=sign_ev x_2d (f:=false) (b:=b) h
 obtain ⟨r12,s2,s2'⟩:=sign_ev x_28 (f:=false) (b:=b) h
 have hwd : d < 8 → wr ((d : Int) + 1) = ((d + 1 : Nat) : Int):=fun _=>by rw [wr_of (by omega)]; rfl

 have rest : ∃ y at2 f2 b2,Ev (fun n=>bif (bif r8 then decide ((d : Int) < 8) else false) then (ref1_Reader_factor n ⟨T,((at_ + 1 : Nat) : Int),false,b⟩ (wr ((d : Int) + 1))).bind fun r9=>some (⟨3,0,b0,[r9.1]⟩,r9.2) else
   bif (bif r12 then decide ((d : Int) < 8) else false) then (ref1_Reader_expr n ⟨T,((at_ + 1 : Nat) : Int),false,b⟩ (wr ((d : Int) + 1))).bind fun r13=>(ref1_Reader_must n r13.2 x_29).bind fun r14=>some (r13.1,r14) else some (⟨0,0,b0,[]⟩,(⟨T,(at_ : Int),true,b'⟩ : Reader))) (y,⟨T,(at2 : Nat),f2,b2⟩) ∧ at_ ≤ at2 ∧ at2 < T.length ∧ okB T f2 b2 ∧ (false = true → f2 = true) ∧ PE at_ y at2 f2:=by
  cases hc1 : (bif r8 then decide ((d : Int) < 8) else false)
  ·cases hc2 : (bif r12 then decide ((d : Int) < 8) else false)
   ·exact ⟨_,at_,true,b',Ev.ret _,Nat.le_refl _,h,q4,fun _=>rfl,by unfold PE; rw [szE_leaf]; omega⟩
   ·have hr : r12 = true ∧ d < 8:=by cases r12 <;> simp at hc2 ⊢; omega
    obtain ⟨tt,t1,t2⟩:=(s2' hr.1).2
    have hlt:=g.last at_ tt t1 (by omega)
    obtain ⟨x,at1,f1,b1,k1,k2,k3,k4,k5,k6⟩:=hE (at_ + 1) false b (d + 1) hlt (by omega) hb (by omega)
    obtain ⟨at2,f2,b2,m1,m2,m3,m4,m5,m6⟩:=must_ev g x_29 (f:=f1) (b:=b1) k3 k4
    rw [hwd hr.2]
    refine ⟨x,at2,f2,b2,Ev.bind k1 ?_,by omega,m3,m4,fun e=>by simp at e,?_⟩
    ·simp only [m1,Option.bind_some]; exact Ev.ret _
    ·unfold PE at k6 ⊢; omega
  ·have hr : r8 = true ∧ d < 8:=by cases r8 <;> simp at hc1 ⊢; omega
   obtain ⟨tt,t1,t2⟩:=(s1' hr.1).2
   have hlt:=g.last at_ tt t1 (by omega)
   obtain ⟨x,at1,f1,b1,k1,k2,k3,k4,k5,k6⟩:=hF (at_ + 1) false b (d + 1) hlt (by omega) hb (by omega)
   rw [hwd hr.2]
   refine ⟨_,at1,f1,b1,Ev.bind k1 (Ev.ret _),by omega,k3,k4,fun e=>by simp at e,?_⟩
   unfold PE at k6 ⊢; simp only [szE_un]; omega
 obtain ⟨y,at2,f2,b2,l1,l2⟩:=rest
 by_cases k1 : t.Kind = 1
 ·have e2 : (t.Kind == 1) = true:=by simpa using k1
  obtain ⟨kb,hkb⟩:=keyword_ev t.Text
  cases kb
  ·refine ⟨⟨2,0,t.Text,[]⟩,at_ + 1,false,b,Ev.step (Ev.of_eq (g:=fun n=>(ref1_Keyword n t.Text).bind fun r5=>bif !r5 then some (⟨2,0,t.Text,[]⟩,⟨T,((at_ + 1 : Nat) : Int),false,b⟩) else
    bif (bif r8 then decide ((d : Int) < 8) else false) then (ref1_Reader_factor n ⟨T,((at_ + 1 : Nat) : Int),false,b⟩ (wr ((d : Int) + 1))).bind fun r9=>some (⟨3,0,b0,[r9.1]⟩,r9.2) else
   bif (bif r12 then decide ((d : Int) < 8) else false) then (ref1_Reader_expr n ⟨T,((at_ + 1 : Nat) : Int),false,b⟩ (wr ((d : Int) + 1))).bind fun r13=>(ref1_Reader_must n r13.2 x_29).bind fun r14=>some (r13.1,r14) else some (⟨0,0,b0,[]⟩,(⟨T,(at_ : Int),true,b'⟩ : Reader))) (fun n=>?_) (Ev.bind hkb (Ev.yes rfl (Ev.ret _)))),by omega,g.last _ t h2 (by omega),hb,id,by unfold PE; rw [szE_leaf]; omega⟩
   cases r8 <;> cases r12 <;> simp only [ref1_Reader_factor,cond_false,h1,Option.bind_some,e1,e2,cond_true,jn,s1,s2,q3,wrT g h]
  ·refine ⟨y,at2,f2,b2,Ev.step (Ev.of_eq (g:=fun n=>(ref1_Keyword n t.Text).bind fun r5=>bif !r5 then some (⟨2,0,t.Text,[]⟩,⟨T,((at_ + 1 : Nat) : Int),false,b⟩) else
    bif (bif r8 then decide ((d : Int) < 8) else false) then (ref1_Reader_factor n ⟨T,((at_ + 1 : Nat) : Int),false,b⟩ (wr ((d : Int) + 1))).bind fun r9=>some (⟨3,0,b0,[r9.1]⟩,r9.2) else
   bif (bif r12 then decide ((d : Int) < 8) else false) then (ref1_Reader_expr n ⟨T,((at_ + 1 : Nat) : Int),false,b⟩ (wr ((d : Int) + 1))).bind fun r13=>(ref1_Reader_must n r13.2 x_29).bind fun r14=>some (r13.1,r14) else some (⟨0,0,b0,[]⟩,(⟨T,(at_ : Int),true,b'⟩ : Reader))) (fun n=>?_) (Ev.bind hkb (Ev.no rfl l1))),l2⟩
   cases r8 <;> cases r12 <;> simp only [ref1_Reader_factor,cond_false,h1,Option.bind_some,e1,e2,cond_true,jn,s1,s2,q3,wrT g h]
 ·have e2 : (t.Kind == 1) = false:=by simpa using k1
  refine ⟨y,at2,f2,b2,Ev.step (Ev.of_eq (fun n=>?_) l1),l2⟩
  cases r8 <;> cases r12 <;> simp only [ref1_Reader_factor,cond_false,h1,Option.bind_some,e1,e2,cond_true,jn,Bool.not_true,s1,s2,q3,wrT g h]
theorem reads_all (g : GoodT T) : ∀ k,RF T k ∧ RT T k ∧ RS T k ∧ RE T k ∧ RTL T k ∧ RSL T k:=by
 intro k
 induction k with
 | zero =>
  refine ⟨?_,?_,?_,?_,?_,?_⟩ <;> intro at_ <;> intros <;> exfalso <;> omega
 | succ k ih =>
  obtain ⟨hF,hT,hS,hE,hTL,hSL⟩:=ih
  have f:=f_step g (k + 1) hF hE
  have tl:=tl_step g (k + 1) hF hTL
  have t:=t_step (k + 1) f tl
  have sl:=sl_step g (k + 1) hT hSL
  have s:=s_step (k + 1) t sl
  exact ⟨f,t,s,e_step g (k + 1) s hS,tl,sl⟩
theorem whole_ev (g : GoodT T) (w : ByteArray) {at_ : Nat} {f : Bool} {b : Int} (h : at_ < T.length) (hb : okB T f b) : ∃ k m v l at' f' b',Ev (fun n=>ref1_Reader_whole n ⟨T,(at_ : Int),f,b⟩ w) (⟨k,m,v,l⟩,⟨T,(at' : Nat),f',b'⟩) ∧ at_ ≤ at' ∧ at' < T.length ∧ okB T f' b' ∧ (f = true → f' = true) ∧ szE ⟨k,m,v,l⟩ ≤ 2 * (at' - at_) + 1:=by
 cases f
 ·obtain ⟨⟨k,m,v,l⟩,at1,f1,b1,k1,k2,k3,k4,k5,k6⟩:=(reads_all g (T.length - at_)).2.2.2.1 at_ false b 0 h (Nat.le_refl _) hb (by omega)
  refine ⟨k,m,v,l,at1,f1,b1,Ev.of_eq (g:=fun n=>(ref1_Reader_expr n ⟨T,(at_ : Int),false,b⟩ 0).bind fun r7=>some (⟨r7.1.Kind,r7.1.N,r7.1.Name,r7.1.Of⟩,r7.2)) (fun n=>?_) (Ev.bind k1 (Ev.ret _)),k2,k3,k4,k5,k6⟩
  simp only [ref1_Reader_whole,jn,Bool.not_false,cond_true]
 ·exact ⟨0,0,b0,[],at_,true,b,Ev.of_eq (g:=fun n=>some (⟨0,0,b0,[]⟩,⟨T,(at_ : Int),true,b⟩)) (fun n=>by simp only [ref1_Reader_whole,jn,Bool.not_true,cond_false]) (Ev.ret _),Nat.le_refl _,h,hb,id,by rw [szE_leaf]; omega⟩
def wfl : Nat → List Stmt → Prop
 | 0,l=>l = []
 | d + 1,l=>∀ s ∈ l,okA s.At ∧ 0 ≤ s.N ∧ s.N ≤ 9 ∧ wfl d s.Body ∧ wfl d s.Else
theorem wfl_nil : ∀ d,wfl d []
 | 0=>rfl
 | d + 1=>by intro s hs; cases hs
def QS (at0 : Nat) (d : Nat) (x : Stmt) (at_ : Nat) (f : Bool) : Prop:=szS x ≤ 6 * (at_ - at0) + 2 ∧ (f = false → at0 + 1 ≤ at_ ∧ szS x ≤ 6 * (at_ - at0)) ∧ okA x.At ∧ 0 ≤ x.N ∧ x.N ≤ 9 ∧ wfl d x.Body ∧ wfl d x.Else
def SS (T : List Token) (w : ByteArray) (k : Nat) : Prop:=∀ (at_ : Nat) f b (d : Nat),at_ < T.length → T.length - at_ ≤ k → okB T f b → d ≤ 7 → Rd T (fun n=>ref1_Reader_stmt n ⟨T,(at_ : Int),f,b⟩ w ((8 - d : Nat) : Int)) at_ f (QS at_ d)
def SB (T : List Token) (w : ByteArray) (k : Nat) : Prop:=∀ (at_ : Nat) f b (d : Nat),at_ < T.length → T.length - at_ ≤ k → okB T f b → d ≤ 8 → Rd T (fun n=>ref1_Reader_block n ⟨T,(at_ : Int),f,b⟩ w ((9 - d : Nat) : Int)) at_ f (fun l at' _=>szSl l ≤ 6 * (at' - at_) ∧ wfl d l)
def SL (T : List Token) (w : ByteArray) (k : Nat) : Prop:=∀ (at_ : Nat) f b (d : Nat) a0 v1 r4 (l : List Stmt),at_ < T.length → T.length - at_ ≤ k → okB T f b → d ≤ 7 → l.length ≤ at_ →
 Rd T (fun n=>ref1_Reader_block_L0 n a0 w ((8 - d : Nat) : Int) v1 r4 ⟨T,(at_ : Int),f,b⟩ l) at_ f (fun x at' _=>∃ y,x = l ++ y ∧ szSl y ≤ 6 * (at' - at_) ∧ wfl (d + 1) y)
theorem roomP (a : Nat) (h : a ≤ 6001) (x : Stmt) : room s_Stmt.i1.bytes a [x].length = true:=room_of (by
 have : s_Stmt.i1.bytes = 168:=rfl
 rw [this]; simp only [List.length_singleton]; omega)
theorem blockL_step (g : GoodT T) (w : ByteArray) (k : Nat) (hS : SS T w k) (hL : SL T w (k - 1)) : SL T w k:=by
 intro at_ f b d a0 v1 r4 l h hk hb hd hl
 obtain ⟨at2,f2,b2,m1,m2,m3,m4,m5,m6⟩:=must_ev g x_7d (f:=f) (b:=b) h hb
 have stop : ∀ F : Nat → Option (List Stmt × Reader),(∀ n,F (n + 1) = (ref1_Reader_must n ⟨T,(at_ : Int),f,b⟩ x_7d).bind fun r12=>some (l,r12)) → Rd T F at_ f (fun x at' _=>∃ y,x = l ++ y ∧ szSl y ≤ 6 * (at' - at_) ∧ wfl (d + 1) y):=by
  intro F hF
  refine ⟨l,at2,f2,b2,Ev.step (Ev.of_eq (g:=fun n=>some (l,⟨T,(at2 : Nat),f2,b2⟩)) (fun n=>by rw [hF]; simp only [m1,Option.bind_some]) (Ev.ret _)),m2,m3,m4,m5,[],by simp,by simp [szSl],wfl_nil _⟩
 cases f
 ·obtain ⟨r9,s1,s1'⟩:=sign_ev x_7d (f:=false) (b:=b) h
  cases r9
  ·obtain ⟨x,at1,f1,b1,k1,k2,k3,k4,k5,q1,q2,q0,q3,q4,q5,q6⟩:=hS at_ false b d h hk hb hd
   have hlen:=g.len
   cases f1
   ·have hp:=q2 rfl
    obtain ⟨y,at3,f3,b3,n1,n2,n3,n4,n5,z,n6,n7,n8⟩:=hL at1 false b1 d a0 v1 r4 (l ++ [x]) k3 (by omega) k4 hd (by simp; omega)
    refine ⟨y,at3,f3,b3,Ev.step (Ev.of_eq (g:=fun n=>(ref1_Reader_stmt n ⟨T,(at_ : Int),false,b⟩ w ((8 - d : Nat) : Int)).bind fun r10=>bif !r10.2.Fail then bif room s_Stmt.i1.bytes l.length [r10.1].length then ref1_Reader_block_L0 n a0 w ((8 - d : Nat) : Int) v1 r4 r10.2 (l ++ [r10.1]) else none else ref1_Reader_block_L0 n a0 w ((8 - d : Nat) : Int) v1 r4 r10.2 l) (fun n=>?_) (Ev.bind k1 ?_)),by omega,n3,n4,fun e=>by simp at e,x :: z,by rw [n6]; simp,by rw [szSl]; omega,?_⟩
    ·simp only [ref1_Reader_block_L0,jn,Bool.not_false,cond_true,s1,Option.bind_some]
    ·simp only [Bool.not_false,cond_true,roomP l.length (by omega) x]; exact n1
    ·intro s hs
     rcases List.mem_cons.1 hs with rfl | hs
     ·exact ⟨q0,q3,q4,q5,q6⟩
     ·exact n8 s hs
   ·
    obtain ⟨at2',f2',b2',m1',m2',m3',m4',m5',m6'⟩:=must_ev g x_7d (f:=true) (b:=b1) k3 k4
    refine ⟨l,at2',f2',b2',Ev.step (Ev.of_eq (g:=fun n=>(ref1_Reader_stmt n ⟨T,(at_ : Int),false,b⟩ w ((8 - d : Nat) : Int)).bind fun r10=>bif !r10.2.Fail then bif room s_Stmt.i1.bytes l.length [r10.1].length then ref1_Reader_block_L0 n a0 w ((8 - d : Nat) : Int) v1 r4 r10.2 (l ++ [r10.1]) else none else ref1_Reader_block_L0 n a0 w ((8 - d : Nat) : Int) v1 r4 r10.2 l) (fun n=>?_) (Ev.bind k1 ?_)),by omega,m3',m4',fun e=>by simp at e,[],by simp,by simp [szSl],wfl_nil _⟩
    ·simp only [ref1_Reader_block_L0,jn,Bool.not_false,cond_true,s1,Option.bind_some]
    ·simp only [Bool.not_true,cond_false]
     exact Ev.step (Ev.of_eq (g:=fun n=>some (l,⟨T,(at2' : Nat),f2',b2'⟩)) (fun n=>by simp only [ref1_Reader_block_L0,jn,Bool.not_true,cond_false,m1',Option.bind_some]) (Ev.ret _))
  ·exact stop _ fun n=>by simp only [ref1_Reader_block_L0,jn,Bool.not_false,cond_true,s1,Option.bind_some,Bool.not_true,cond_false]
 ·exact stop _ fun n=>by simp only [ref1_Reader_block_L0,jn,Bool.not_true,cond_false]
theorem block_step (g : GoodT T) (w : ByteArray) (k : Nat) (hL : SL T w (k - 1)) : SB T w k:=by
 intro at_ f b d h hk hb hd
 rcases Nat.eq_zero_or_pos d with rfl | hd0
 ·
  obtain ⟨b',f1,f2⟩:=fail_ev (f:=f) h hb
  obtain ⟨at2,f2',b2,m1,m2,m3,m4,m5,m6⟩:=must_ev g x_7b (f:=true) (b:=b') h f2
  have hf:=m5 rfl
  subst hf
  obtain ⟨at3,f3,b3,n1,n2,n3,n4,n5,n6⟩:=must_ev g x_7d (f:=true) (b:=b2) m3 m4
  have hd9 : decide (((9 - 0 : Nat) : Int) > 8) = true:=decide_eq_true (by omega)
  refine ⟨[],at3,f3,b3,Ev.step (Ev.of_eq (g:=fun n=>ref1_Reader_block_L0 n ⟨T,(at_ : Int),f,b⟩ w ((9 - 0 : Nat) : Int) ⟨T,(at_ : Int),true,b'⟩ ⟨T,(at2 : Nat),true,b2⟩ ⟨T,(at2 : Nat),true,b2⟩ []) (fun n=>?_) (Ev.step (Ev.of_eq (g:=fun n=>some ([],⟨T,(at3 : Nat),f3,b3⟩)) (fun n=>?_) (Ev.ret _)))),by omega,n3,n4,fun _=>n5 rfl,by simp [szSl],wfl_nil _⟩
  ·simp only [ref1_Reader_block,jn,hd9,cond_true,f1,Option.bind_some,m1]
  ·simp only [ref1_Reader_block_L0,jn,Bool.not_true,cond_false,n1,Option.bind_some]
 ·obtain ⟨d',rfl⟩ : ∃ d',d = d' + 1:=⟨d - 1,by omega⟩
  have hd9 : decide (((9 - (d' + 1) : Nat) : Int) > 8) = false:=decide_eq_false (by omega)
  have e8 : 9 - (d' + 1) = 8 - d':=by omega
  obtain ⟨at2,f2,b2,m1,m2,m3,m4,m5,m6⟩:=must_ev g x_7b (f:=f) (b:=b) h hb
  cases f2
  ·have hp:=m6 rfl
   obtain ⟨y,at3,f3,b3,n1,n2,n3,n4,n5,z,n6,n7,n8⟩:=hL at2 false b2 d' ⟨T,(at_ : Int),f,b⟩ ⟨T,(at_ : Int),f,b⟩ ⟨T,(at2 : Nat),false,b2⟩ [] m3 (by omega) m4 (by omega) (by simp)
   rw [List.nil_append] at n6
   subst n6
   refine ⟨y,at3,f3,b3,Ev.step (Ev.of_eq (fun n=>?_) n1),by omega,n3,n4,fun e=>n5 (m5 e),by omega,n8⟩
   simp only [ref1_Reader_block,jn,hd9,cond_false,m1,Option.bind_some]; rw [e8]
  ·obtain ⟨at3,f3,b3,n1,n2,n3,n4,n5,n6⟩:=must_ev g x_7d (f:=true) (b:=b2) m3 m4
   refine ⟨[],at3,f3,b3,Ev.step (Ev.of_eq (g:=fun n=>ref1_Reader_block_L0 n ⟨T,(at_ : Int),f,b⟩ w ((9 - (d' + 1) : Nat) : Int) ⟨T,(at_ : Int),f,b⟩ ⟨T,(at2 : Nat),true,b2⟩ ⟨T,(at2 : Nat),true,b2⟩ []) (fun n=>?_) (Ev.step (Ev.of_eq (g:=fun n=>some ([],⟨T,(at3 : Nat),f3,b3⟩)) (fun n=>?_) (Ev.ret _)))),by omega,n3,n4,fun _=>n5 rfl,by simp [szSl],wfl_nil _⟩
   ·simp only [ref1_Reader_block,jn,hd9,cond_false,m1,Option.bind_some]
   ·simp only [ref1_Reader_block_L0,jn,Bool.not_true,cond_false,n1,Option.bind_some]
theorem szS_mk (k m : Int) (w v : ByteArray) (e : Expr) (b l : List Stmt) (a : Cx) : szS ⟨k,w,v,m,e,b,l,a⟩ = 1 + szE e + (szSl b + szSl l):=by rw [szS]
theorem szE_zero : szE ⟨0,0,b0,[]⟩ = 1:=szE_leaf _ _ _
theorem stmt_step (g : GoodT T) (w : ByteArray) (hw : w.size ≤ 6000) (k : Nat) (hB : SB T w (k - 1)) : SS T w k:=by
 intro at_ f b d h hk hb hd
 obtain ⟨t,h1,h2⟩:=idxT h
 obtain ⟨z,hz,oz⟩:=place_ev w hw t.At
 by_cases hk1 : t.Kind = 1
 case neg =>
  have e1 : (t.Kind != 1) = true:=by simpa using hk1
  obtain ⟨b',f1,f2⟩:=fail_ev (f:=f) h hb
  refine ⟨⟨0,b0,b0,0,⟨0,0,b0,[]⟩,[],[],z⟩,at_,true,b',Ev.step (Ev.of_eq (g:=fun n=>(ref1_Place n w t.At).bind fun r2=>some (⟨0,b0,b0,0,⟨0,0,b0,[]⟩,[],[],r2⟩,⟨T,(at_ : Int),true,b'⟩)) (fun n=>?_) (Ev.bind hz (Ev.ret _))),Nat.le_refl _,h,f2,fun _=>rfl,?_,fun e=>by simp at e,oz,by simp,by simp,wfl_nil _,wfl_nil _⟩
  ·simp only [ref1_Reader_stmt,h1,Option.bind_some,e1,cond_true,f1]
  ·simp only [szS_mk,szE_zero,szSl]; omega
 have e1 : (t.Kind != 1) = false:=by simpa using hk1
 have hlt:=g.last at_ t h2 (by omega)
 have eAt:=wrT g h

 have fin : ∀ (kd m : Int) (x y : ByteArray) (e : Expr) (bl el : List Stmt) (at' : Nat) (f' : Bool),1 + szE e + (szSl bl + szSl el) ≤ 6 * (at' - at_) → at_ + 1 ≤ at' → 0 ≤ m → m ≤ 9 → wfl d bl → wfl d el → QS at_ d ⟨kd,x,y,m,e,bl,el,z⟩ at' f' :=
  fun kd m x y e bl el at' f' q1 q2 q3 q4 q5 q6=>⟨by rw [szS_mk]; omega,fun _=>⟨q2,by rw [szS_mk]; omega⟩,oz,q3,q4,q5,q6⟩

 have four : ∀ kd : Int,Rd T (fun n=>(ref1_Reader_name n ⟨T,((at_ + 1 : Nat) : Int),f,b⟩).bind fun r29=>some (⟨kd,r29.1,b0,0,⟨0,0,b0,[]⟩,[],[],z⟩,r29.2)) at_ f (QS at_ d):=by
  intro kd
  obtain ⟨x,at1,f1,b1,k1,k2,k3,k4,k5,_⟩:=name_ev g (f:=f) (b:=b) hlt hb
  exact ⟨_,at1,f1,b1,Ev.bind k1 (Ev.ret _),by omega,k3,k4,k5,fin _ _ _ _ _ _ _ _ _ (by simp only [szE_zero,szSl]; omega) (by omega) (by omega) (by omega) (wfl_nil _) (wfl_nil _)⟩
 have lift : ∀ (G : Nat → Cx → Option (Stmt × Reader)),Rd T (fun n=>G n z) at_ f (QS at_ d) → (∀ n,ref1_Reader_stmt (n + 1) ⟨T,(at_ : Int),f,b⟩ w ((8 - d : Nat) : Int) = (ref1_Place n w t.At).bind (G n)) → Rd T (fun n=>ref1_Reader_stmt n ⟨T,(at_ : Int),f,b⟩ w ((8 - d : Nat) : Int)) at_ f (QS at_ d):=by
  rintro G ⟨x,at1,f1,b1,k1,k2⟩ hG
  exact ⟨x,at1,f1,b1,Ev.step (Ev.of_eq hG (Ev.bind hz k1)),k2⟩
 have e9 : wr (((8 - d : Nat) : Int) + 1) = ((9 - d : Nat) : Int):=by rw [wr_of (by omega)]; omega
 cases c1 : bytesEq t.Text k_lock
 case true =>
  cases c2 : bytesEq t.Text k_unlock
  ·cases c3 : bytesEq t.Text k_goto
   ·cases c4 : bytesEq t.Text k_label
    ·exact lift (fun n r2=>(ref1_Reader_name n ⟨T,((at_ + 1 : Nat) : Int),f,b⟩).bind fun r29=>some (⟨2,r29.1,b0,0,⟨0,0,b0,[]⟩,[],[],r2⟩,r29.2)) (four 2) fun n=>by simp only [ref1_Reader_stmt,h1,Option.bind_some,e1,cond_false,jn,c1,c2,c3,c4,cond_true,eAt]
    ·exact lift (fun n r2=>(ref1_Reader_name n ⟨T,((at_ + 1 : Nat) : Int),f,b⟩).bind fun r29=>some (⟨10,r29.1,b0,0,⟨0,0,b0,[]⟩,[],[],r2⟩,r29.2)) (four 10) fun n=>by simp only [ref1_Reader_stmt,h1,Option.bind_some,e1,cond_false,jn,c1,c2,c3,c4,cond_true,eAt]
   ·exact lift (fun n r2=>(ref1_Reader_name n ⟨T,((at_ + 1 : Nat) : Int),f,b⟩).bind fun r29=>some (⟨9,r29.1,b0,0,⟨0,0,b0,[]⟩,[],[],r2⟩,r29.2)) (four 9) fun n=>by simp only [ref1_Reader_stmt,h1,Option.bind_some,e1,cond_false,jn,c1,c2,c3,cond_true,eAt]
  ·exact lift (fun n r2=>(ref1_Reader_name n ⟨T,((at_ + 1 : Nat) : Int),f,b⟩).bind fun r29=>some (⟨3,r29.1,b0,0,⟨0,0,b0,[]⟩,[],[],r2⟩,r29.2)) (four 3) fun n=>by simp only [ref1_Reader_stmt,h1,Option.bind_some,e1,cond_false,jn,c1,c2,cond_true,eAt]
 cases c2 : bytesEq t.Text k_unlock
 case true=>exact lift (fun n r2=>(ref1_Reader_name n ⟨T,((at_ + 1 : Nat) : Int),f,b⟩).bind fun r29=>some (⟨3,r29.1,b0,0,⟨0,0,b0,[]⟩,[],[],r2⟩,r29.2)) (four 3) fun n=>by simp only [ref1_Reader_stmt,h1,Option.bind_some,e1,cond_false,jn,c1,c2,cond_true,eAt]
 cases c3 : bytesEq t.Text k_goto
 case true=>exact lift (fun n r2=>(ref1_Reader_name n ⟨T,((at_ + 1 : Nat) : Int),f,b⟩).bind fun r29=>some (⟨9,r29.1,b0,0,⟨0,0,b0,[]⟩,[],[],r2⟩,r29.2)) (four 9) fun n=>by simp only [ref1_Reader_stmt,h1,Option.bind_some,e1,cond_false,jn,c1,c2,c3,cond_true,eAt]
 cases c4 : bytesEq t.Text k_label
 case true=>exact lift (fun n r2=>(ref1_Reader_name n ⟨T,((at_ + 1 : Nat) : Int),f,b⟩).bind fun r29=>some (⟨10,r29.1,b0,0,⟨0,0,b0,[]⟩,[],[],r2⟩,r29.2)) (four 10) fun n=>by simp only [ref1_Reader_stmt,h1,Option.bind_some,e1,cond_false,jn,c1,c2,c3,c4,cond_true,eAt]
 cases c5 : bytesEq t.Text k_send
 case true =>
  refine lift (fun n r2=>(ref1_Reader_name n ⟨T,((at_ + 1 : Nat) : Int),f,b⟩).bind fun r30=>(ref1_Reader_whole n r30.2 w).bind fun r31=>some (⟨4,r30.1,b0,0,⟨r31.1.Kind,r31.1.N,r31.1.Name,r31.1.Of⟩,[],[],r2⟩,r31.2)) ?_ fun n=>by simp only [ref1_Reader_stmt,h1,Option.bind_some,e1,cond_false,jn,c1,c2,c3,c4,c5,cond_true,eAt]
  obtain ⟨x,at1,f1,b1,k1,k2,k3,k4,k5,_⟩:=name_ev g (f:=f) (b:=b) hlt hb
  obtain ⟨kk,m,v,l,at2,f2,b2,l1,l2,l3,l4,l5,l6⟩:=whole_ev g w (f:=f1) (b:=b1) k3 k4
  exact ⟨_,at2,f2,b2,Ev.bind k1 (Ev.bind l1 (Ev.ret _)),by omega,l3,l4,fun e=>l5 (k5 e),fin _ _ _ _ _ _ _ _ _ (by simp only [szSl]; omega) (by omega) (by omega) (by omega) (wfl_nil _) (wfl_nil _)⟩
 cases c6 : bytesEq t.Text k_recv
 case true =>
  refine lift (fun n r2=>(ref1_Reader_name n ⟨T,((at_ + 1 : Nat) : Int),f,b⟩).bind fun r32=>(ref1_Reader_name n r32.2).bind fun r33=>some (⟨5,r32.1,r33.1,0,⟨0,0,b0,[]⟩,[],[],r2⟩,r33.2)) ?_ fun n=>by simp only [ref1_Reader_stmt,h1,Option.bind_some,e1,cond_false,jn,c1,c2,c3,c4,c5,c6,cond_true,eAt]
  obtain ⟨x,at1,f1,b1,k1,k2,k3,k4,k5,_⟩:=name_ev g (f:=f) (b:=b) hlt hb
  obtain ⟨y,at2,f2,b2,l1,l2,l3,l4,l5,_⟩:=name_ev g (f:=f1) (b:=b1) k3 k4
  exact ⟨_,at2,f2,b2,Ev.bind k1 (Ev.bind l1 (Ev.ret _)),by omega,l3,l4,fun e=>l5 (k5 e),fin _ _ _ _ _ _ _ _ _ (by simp only [szE_zero,szSl]; omega) (by omega) (by omega) (by omega) (wfl_nil _) (wfl_nil _)⟩
 cases c7 : bytesEq t.Text k_print
 case true =>
  refine lift (fun n r2=>(ref1_Reader_whole n ⟨T,((at_ + 1 : Nat) : Int),f,b⟩ w).bind fun r34=>some (⟨6,b0,b0,0,⟨r34.1.Kind,r34.1.N,r34.1.Name,r34.1.Of⟩,[],[],r2⟩,r34.2)) ?_ fun n=>by simp only [ref1_Reader_stmt,h1,Option.bind_some,e1,cond_false,jn,c1,c2,c3,c4,c5,c6,c7,cond_true,eAt]
  obtain ⟨kk,m,v,l,at2,f2,b2,l1,l2,l3,l4,l5,l6⟩:=whole_ev g w (f:=f) (b:=b) hlt hb
  exact ⟨_,at2,f2,b2,Ev.bind l1 (Ev.ret _),by omega,l3,l4,l5,fin _ _ _ _ _ _ _ _ _ (by simp only [szSl]; omega) (by omega) (by omega) (by omega) (wfl_nil _) (wfl_nil _)⟩
 cases c8 : bytesEq t.Text k_if
 case true =>
  refine lift (fun n r2=>(ref1_Reader_whole n ⟨T,((at_ + 1 : Nat) : Int),f,b⟩ w).bind fun r35=>(ref1_Reader_block n r35.2 w ((9 - d : Nat) : Int)).bind fun r36=>(ref1_Reader_word n r36.2 k_else).bind fun r37=>bif r37 then (ref1_Reader_block n (Reader.mk r36.2.T (wr (r36.2.At + 1)) r36.2.Fail r36.2.Bad) w ((9 - d : Nat) : Int)).bind fun r38=>some (⟨7,b0,b0,0,⟨r35.1.Kind,r35.1.N,r35.1.Name,r35.1.Of⟩,r36.1,r38.1,r2⟩,r38.2)
   else some (⟨7,b0,b0,0,⟨r35.1.Kind,r35.1.N,r35.1.Name,r35.1.Of⟩,r36.1,[],r2⟩,r36.2)) ?_ fun n=>by simp only [ref1_Reader_stmt,h1,Option.bind_some,e1,cond_false,jn,c1,c2,c3,c4,c5,c6,c7,c8,cond_true,eAt,e9]
  obtain ⟨kk,m,v,l,at2,f2,b2,l1,l2,l3,l4,l5,l6⟩:=whole_ev g w (f:=f) (b:=b) hlt hb
  obtain ⟨bl,at3,f3,b3,m1,m2,m3,m4,m5,m6,m7⟩:=hB at2 f2 b2 d l3 (by omega) l4 (by omega)
  obtain ⟨r37,w1,w2⟩:=word_ev k_else (f:=f3) (b:=b3) m3
  cases r37
  ·refine ⟨⟨7,b0,b0,0,⟨kk,m,v,l⟩,bl,[],z⟩,at3,f3,b3,Ev.bind l1 (Ev.bind m1 ?_),by omega,m3,m4,fun e=>m5 (l5 e),fin _ _ _ _ _ _ _ _ _ (by simp only [szSl]; omega) (by omega) (by omega) (by omega) m7 (wfl_nil _)⟩
   simp only [w1,Option.bind_some,cond_false]; exact Ev.ret _
  ·obtain ⟨hf3,tt,t1,t2⟩:=w2 rfl
   have hlt3:=g.last at3 tt t1 (by omega)
   obtain ⟨el,at4,f4,b4,n1,n2,n3,n4,n5,n6,n7⟩:=hB (at3 + 1) f3 b3 d hlt3 (by omega) m4 (by omega)
   refine ⟨⟨7,b0,b0,0,⟨kk,m,v,l⟩,bl,el,z⟩,at4,f4,b4,Ev.bind l1 (Ev.bind m1 ?_),by omega,n3,n4,fun e=>n5 (m5 (l5 e)),fin _ _ _ _ _ _ _ _ _ ?_ (by omega) (by omega) (by omega) m7 n7⟩
   ·simp only [w1,Option.bind_some,cond_true,wrT g m3]; exact Ev.bind n1 (Ev.ret _)
   ·omega
 cases c9 : bytesEq t.Text k_repeat
 case true =>
  refine lift (fun n r2=>(ref1_Reader_number n ⟨T,((at_ + 1 : Nat) : Int),f,b⟩ 9).bind fun r39=>(ref1_Reader_block n r39.2 w ((9 - d : Nat) : Int)).bind fun r40=>some (⟨8,b0,b0,r39.1,⟨0,0,b0,[]⟩,r40.1,[],r2⟩,r40.2)) ?_ fun n=>by simp only [ref1_Reader_stmt,h1,Option.bind_some,e1,cond_false,jn,c1,c2,c3,c4,c5,c6,c7,c8,c9,cond_true,eAt,e9]
  obtain ⟨x,at2,f2,b2,l1,l2,l3,l4,l5,l6,l7⟩:=number_r g 9 (by omega) (f:=f) (b:=b) hlt hb
  obtain ⟨bl,at3,f3,b3,m1,m2,m3,m4,m5,m6,m7⟩:=hB at2 f2 b2 d l3 (by omega) l4 (by omega)
  exact ⟨_,at3,f3,b3,Ev.bind l1 (Ev.bind m1 (Ev.ret _)),by omega,m3,m4,fun e=>m5 (l5 e),fin _ _ _ _ _ _ _ _ _ (by simp only [szE_zero,szSl]; omega) (by omega) l6 l7 m7 (wfl_nil _)⟩
 obtain ⟨kb,hkb⟩:=keyword_ev t.Text
 have e10 : wr (((at_ + 1 : Nat) : Int) - 1) = (at_ : Int):=by have:=g.len; rw [wr_of (by omega)]; omega
 obtain ⟨b',q1,q2⟩ : ∃ b',(∀ n,ref1_Reader_failAt n ⟨T,((at_ + 1 : Nat) : Int),f,b⟩ (at_ : Int) = some ⟨T,((at_ + 1 : Nat) : Int),true,b'⟩) ∧ okB T true b':=by
  cases f
  ·exact ⟨(at_ : Int),fun n=>rfl,fun _=>⟨at_,rfl,h⟩⟩
  ·exact ⟨b,fun n=>rfl,hb⟩
 refine lift (fun n r2=>(ref1_Keyword n t.Text).bind fun r41=>bif r41 then some (⟨0,b0,b0,0,⟨0,0,b0,[]⟩,[],[],r2⟩,⟨T,((at_ + 1 : Nat) : Int),true,b'⟩) else (ref1_Reader_must n ⟨T,((at_ + 1 : Nat) : Int),f,b⟩ x_3d).bind fun r43=>(ref1_Reader_whole n r43 w).bind fun r44=>some (⟨1,t.Text,b0,0,⟨r44.1.Kind,r44.1.N,r44.1.Name,r44.1.Of⟩,[],[],r2⟩,r44.2)) ?_ fun n=>by simp only [ref1_Reader_stmt,h1,Option.bind_some,e1,cond_false,jn,c1,c2,c3,c4,c5,c6,c7,c8,c9,eAt,e10,q1]
 cases kb
 ·obtain ⟨at1,f1,b1,k1,k2,k3,k4,k5,k6⟩:=must_ev g x_3d (f:=f) (b:=b) hlt hb
  obtain ⟨kk,m,v,l,at2,f2,b2,l1,l2,l3,l4,l5,l6⟩:=whole_ev g w (f:=f1) (b:=b1) k3 k4
  refine ⟨⟨1,t.Text,b0,0,⟨kk,m,v,l⟩,[],[],z⟩,at2,f2,b2,Ev.bind hkb (Ev.no rfl ?_),by omega,l3,l4,fun e=>l5 (k5 e),fin _ _ _ _ _ _ _ _ _ (by simp only [szSl]; omega) (by omega) (by omega) (by omega) (wfl_nil _) (wfl_nil _)⟩
  simp only [k1,Option.bind_some]; exact Ev.bind l1 (Ev.ret _)
 ·exact ⟨_,at_ + 1,true,b',Ev.bind hkb (Ev.yes rfl (Ev.ret _)),by omega,hlt,q2,fun _=>rfl,fin _ _ _ _ _ _ _ _ _ (by simp only [szE_zero,szSl]; omega) (by omega) (by omega) (by omega) (wfl_nil _) (wfl_nil _)⟩
theorem blocks_all (g : GoodT T) (w : ByteArray) (hw : w.size ≤ 6000) : ∀ k,SS T w k ∧ SB T w k ∧ SL T w k:=by
 intro k
 induction k with
 | zero=>refine ⟨?_,?_,?_⟩ <;> intro at_ <;> intros <;> exfalso <;> omega
 | succ k ih =>
  obtain ⟨hS,hB,hL⟩:=ih
  have s:=stmt_step g w hw (k + 1) hB
  exact ⟨s,block_step g w (k + 1) hL,blockL_step g w (k + 1) s hL⟩
theorem block_ev (g : GoodT T) (w : ByteArray) (hw : w.size ≤ 6000) {at_ : Nat} {f : Bool} {b : Int} (h : at_ < T.length) (hb : okB T f b) : Rd T (fun n=>ref1_Reader_block n ⟨T,(at_ : Int),f,b⟩ w 1) at_ f (fun l at' _=>szSl l ≤ 6 * (at' - at_) ∧ wfl 8 l) :=
 (blocks_all g w hw (T.length - at_)).2.1 at_ f b 8 h (Nat.le_refl _) hb (by omega)
def EvJ {β γ : Type} (f : Nat → (β → γ) → γ) (x : β) : Prop:=∃ k,∀ n,k ≤ n → ∀ J,f n J = J x
theorem EvJ.step {β γ : Type} {f : Nat → (β → γ) → γ} {x : β} (h : EvJ (fun n=>f (n + 1)) x) : EvJ f x:=by
 obtain ⟨k,hk⟩:=h
 refine ⟨k + 1,fun n hn J=>?_⟩
 obtain ⟨m,rfl⟩ : ∃ m,n = m + 1:=⟨n - 1,by omega⟩
 exact hk m (by omega) J
theorem EvJ.bind {α β γ : Type} {h : Nat → Option α} {g : Nat → (β → Option γ) → α → Option γ} {a : α} {x : β} (h1 : Ev h a) (h2 : EvJ (fun n J=>g n J a) x) : EvJ (fun n J=>(h n).bind (g n J)) x:=by
 obtain ⟨k,hk⟩:=h1
 obtain ⟨k',hk'⟩:=h2
 refine ⟨max k k',fun n hn J=>?_⟩
 show (h n).bind (g n J) = _
 rw [hk n (by omega)]
 exact hk' n (by omega) J
theorem EvJ.of_eq {β γ : Type} {f g : Nat → (β → γ) → γ} {x : β} (h : ∀ n J,f n J = g n J) (hg : EvJ g x) : EvJ f x:=by
 obtain ⟨k,hk⟩:=hg
 exact ⟨k,fun n hn J=>(h n J).trans (hk n hn J)⟩
theorem EvJ.now {β γ : Type} (x : β) : EvJ (fun (_ : Nat) (J : β → γ)=>J x) x:=⟨0,fun _ _ _=>rfl⟩
def okDl (l : List Decl) : Prop:=l.length ≤ 24 ∧ ∀ d ∈ l,okA d.At ∧ 1 ≤ d.Kind ∧ d.Kind ≤ 6 ∧ 0 ≤ d.N ∧ d.N ≤ 3
abbrev St0:=List Token × Int × Bool × Int × List Decl
abbrev un0 (J : St0 → Option (Prog × Int × Int)) : List Token → Int → Bool → Int → List Decl → Option (Prog × Int × Int):=fun a b c d e=>J (a,b,c,d,e)
theorem decls_L0 (g : GoodT T) (s : ByteArray) (hs : s.size ≤ 6000) (r1 : List Token × Int × Int) : ∀ (k : Nat) (at_ : Nat) f b (l : List Decl),at_ < T.length → T.length - at_ ≤ k → okB T f b → okDl l →
  ∃ (at' : Nat) (f' : Bool) (b' : Int) (l' : List Decl),EvJ (fun n J=>ref1_Parse_L0 n s r1 (un0 J) T (at_ : Int) f b l) (T,(at' : Int),f',b',l') ∧ at' < T.length ∧ okB T f' b' ∧ okDl l':=by
 intro k
 induction k with
 | zero=>intro at_; intros; exfalso; omega
 | succ k ih =>
  intro at_ f b l h hk hb hl
  have stop : (∀ n J,ref1_Parse_L0 (n + 1) s r1 (un0 J) T (at_ : Int) f b l = J (T,(at_ : Int),f,b,l)) → ∃ (at' : Nat) (f' : Bool) (b' : Int) (l' : List Decl),EvJ (fun n J=>ref1_Parse_L0 n s r1 (un0 J) T (at_ : Int) f b l) (T,(at' : Int),f',b',l') ∧ at' < T.length ∧ okB T f' b' ∧ okDl l' :=
   fun hF=>⟨at_,f,b,l,EvJ.step (EvJ.of_eq hF (EvJ.now _)),h,hb,hl⟩
  cases f
  case true=>exact stop fun n J=>by simp only [ref1_Parse_L0,jn,Bool.not_true,cond_false]
  obtain ⟨t,h1,h2⟩:=idxT h
  by_cases k1 : t.Kind = 1
  case neg =>
   have e1 : (t.Kind == 1) = false:=by simpa using k1
   exact stop fun n J=>by simp only [ref1_Parse_L0,jn,Bool.not_false,cond_true,h1,Option.bind_some,e1,cond_false]
  have e1 : (t.Kind == 1) = true:=by simpa using k1
  obtain ⟨kd,hkd,kd0,kd1⟩:=declKind_ev t.Text
  by_cases hpos : kd > 0
  case neg =>
   refine ⟨at_,false,b,l,EvJ.step (EvJ.of_eq (g:=fun n J=>(ref1_declKind n t.Text).bind fun r17=>bif decide (r17 > 0) then ref1_Parse_L0 (n + 1) s r1 (un0 J) T (at_ : Int) false b l else J (T,(at_ : Int),false,b,l)) (fun n J=>?_) (EvJ.bind hkd ?_)),h,hb,hl⟩
   ·have : ∀ r17 : Int,(bif decide (r17 > 0) then ref1_Parse_L0 (n + 1) s r1 (un0 J) T (at_ : Int) false b l else J (T,(at_ : Int),false,b,l)) = (bif decide (r17 > 0) then ref1_Parse_L0 (n + 1) s r1 (un0 J) T (at_ : Int) false b l else J (T,(at_ : Int),false,b,l)):=fun _=>rfl
    cases hkk : ref1_declKind n t.Text with
    | none=>simp only [ref1_Parse_L0,jn,Bool.not_false,cond_true,h1,Option.bind_some,e1,hkk,Option.bind_none]
    | some r17 =>
     simp only [Option.bind_some]
     by_cases h17 : r17 > 0
     ·simp only [decide_eq_true h17,cond_true]
     ·simp only [ref1_Parse_L0,jn,Bool.not_false,cond_true,h1,Option.bind_some,e1,hkk,decide_eq_false h17,cond_false]
   ·simp only [decide_eq_false hpos,cond_false]; exact EvJ.now _
  have hlt:=g.last at_ t h2 (by omega)
  have dpos : decide (kd > 0) = true:=decide_eq_true hpos
  by_cases h24 : l.length = 24
  ·
   have e24 : (ln l == 24) = true:=by show ((l.length : Int) == 24) = true; rw [h24]; rfl
   obtain ⟨b',f1,f2⟩:=fail_ev (f:=false) h hb
   refine ⟨at_,true,b',l,EvJ.step (EvJ.of_eq (g:=fun n J=>(ref1_declKind n t.Text).bind fun r17=>bif decide (r17 > 0) then J (T,(at_ : Int),true,b',l) else J (T,(at_ : Int),false,b,l)) (fun n J=>?_) (EvJ.bind hkd ?_)),h,f2,hl⟩
   ·simp only [ref1_Parse_L0,jn,Bool.not_false,cond_true,h1,Option.bind_some,e1,e24,f1]
   ·simp only [dpos,cond_true]; exact EvJ.now _
  ·have e24 : (ln l == 24) = false:=by
    have : (l.length : Int) ≠ 24:=by omega
    simpa using this
   obtain ⟨z,hz,oz⟩:=place_ev s hs t.At
   obtain ⟨x,at1,f1,b1,k1',k2,k3,k4,k5,_⟩:=name_ev g (f:=false) (b:=b) hlt hb
   have hr : ∀ d : Decl,room s_Decl.i1.bytes l.length [d].length = true:=fun d=>room_of (by
    have : s_Decl.i1.bytes = 48:=rfl
    have:=hl.1
    rw [‹s_Decl.i1.bytes = 48›]; simp only [List.length_singleton]; omega)
   have okn : ∀ d : Decl,okA d.At ∧ 1 ≤ d.Kind ∧ d.Kind ≤ 6 ∧ 0 ≤ d.N ∧ d.N ≤ 3 → okDl (l ++ [d]):=fun d hd=>⟨by have:=hl.1; simp; omega,fun y hy=>by
    rcases List.mem_append.1 hy with h | h
    ·exact hl.2 y h
    ·rw [List.mem_singleton.1 h]; exact hd⟩
   have main : ∀ (v : Int) (at2 : Nat) (f2 : Bool) (b2 : Int),at1 ≤ at2 → at2 < T.length → okB T f2 b2 → 0 ≤ v → v ≤ 3 →
     ∃ (at' : Nat) (f' : Bool) (b' : Int) (l' : List Decl),EvJ (fun n J=>ref1_Parse_L0 n s r1 (un0 J) T (at2 : Int) f2 b2 (l ++ [⟨kd,x,v,z⟩])) (T,(at' : Int),f',b',l') ∧ at' < T.length ∧ okB T f' b' ∧ okDl l' :=
    fun v at2 f2 b2 q1 q2 q3 q4 q5=>ih at2 f2 b2 _ q2 (by omega) q3 (okn _ ⟨oz,by simp only []; omega,kd1,q4,q5⟩)
   have head : ∀ n (J : St0 → Option (Prog × Int × Int)),ref1_Parse_L0 (n + 1) s r1 (un0 J) T (at_ : Int) false b l = (ref1_declKind n t.Text).bind fun r17=>bif decide (r17 > 0) then (ref1_declKind n t.Text).bind fun r20=>(ref1_Place n s t.At).bind fun r22=>(ref1_Reader_name n ⟨T,((at_ + 1 : Nat) : Int),false,b⟩).bind fun r23 =>
     bif (r20 == 6) then (ref1_Reader_number n r23.2 3).bind fun r27=>(bif room s_Decl.i1.bytes l.length [(Decl.mk r20 r23.1 r27.1 r22)].length then ref1_Parse_L0 n s r1 (un0 J) r27.2.T r27.2.At r27.2.Fail r27.2.Bad (l ++ [(Decl.mk r20 r23.1 r27.1 r22)]) else none)
     else (bif room s_Decl.i1.bytes l.length [(Decl.mk r20 r23.1 0 r22)].length then ref1_Parse_L0 n s r1 (un0 J) r23.2.T r23.2.At r23.2.Fail r23.2.Bad (l ++ [(Decl.mk r20 r23.1 0 r22)]) else none) else J (T,(at_ : Int),false,b,l):=by
    intro n J
    simp only [ref1_Parse_L0,jn,Bool.not_false,cond_true,h1,Option.bind_some,e1,e24,cond_false,wrT g h]
   by_cases h6 : kd = 6
   ·have e6 : (kd == 6) = true:=by simpa using h6
    obtain ⟨v,at2,f2,b2,m1,m2,m3,m4,m5,m6,m7⟩:=number_r g 3 (by omega) (f:=f1) (b:=b1) k3 k4
    obtain ⟨at',f',b',l',n1,n2⟩:=main v at2 f2 b2 m2 m3 m4 m6 m7
    refine ⟨at',f',b',l',EvJ.step (EvJ.of_eq head (EvJ.bind hkd ?_)),n2⟩
    simp only [dpos,cond_true]
    refine EvJ.bind hkd (EvJ.bind hz (EvJ.bind k1' ?_))
    simp only [e6,cond_true]
    refine EvJ.bind m1 ?_
    simp only [hr,cond_true]
    exact n1
   ·have e6 : (kd == 6) = false:=by simpa using h6
    obtain ⟨at',f',b',l',n1,n2⟩:=main 0 at1 f1 b1 (Nat.le_refl _) k3 k4 (by omega) (by omega)
    refine ⟨at',f',b',l',EvJ.step (EvJ.of_eq head (EvJ.bind hkd ?_)),n2⟩
    simp only [dpos,cond_true]
    refine EvJ.bind hkd (EvJ.bind hz (EvJ.bind k1' ?_))
    simp only [e6,cond_false,hr,cond_true]
    exact n1
def okPr (p : Prog) : Prop:=okDl p.Decls ∧ p.Threads.length ≤ 4 ∧ szT p.Threads ≤ 40000 ∧ ∀ t ∈ p.Threads,wfl 8 t
theorem szT_app : ∀ a b : List (List Stmt),szT (a ++ b) = szT a + szT b
 | [],b=>by simp [szT]
 | t :: r,b=>by rw [List.cons_append,szT,szT,szT_app r b]; omega
theorem threads_L1 (g : GoodT T) (s : ByteArray) (hs : s.size ≤ 6000) (r1 : List Token × Int × Int) (l2 : List Token) (i3 : Int) (b4 : Bool) (i5 : Int) (l6 : List Decl) (hl6 : okDl l6) : ∀ (k : Nat) (at_ : Nat) f b (l : List (List Stmt)),at_ < T.length → T.length - at_ ≤ k → okB T f b → l.length ≤ 4 → szT l ≤ 6 * at_ + 4 → (∀ t ∈ l,wfl 8 t) →
  ∃ (p : Prog) (i e : Int),Ev (fun n=>ref1_Parse_L1 n s r1 l2 i3 b4 i5 l6 (fun l29 i30 b31 i32 l33=>bif b31 then (idx T i32).bind fun x49=>some (⟨[],[]⟩,x49.At,2) else some (⟨l6,l33⟩,0,0)) T (at_ : Int) f b l) (p,i,e) ∧ okPr p:=by
 intro k
 have ok0 : okPr ⟨[],[]⟩:=⟨⟨by simp,by simp⟩,by simp,by simp [szT],by simp⟩
 induction k with
 | zero=>intro at_; intros; exfalso; omega
 | succ k ih =>
  intro at_ f b l h hk hb hl hz hw
  have hlen:=g.len
  have failed : ∀ b' : Int,okB T true b' → ∃ x,idx T b' = some x:=by
   intro b' hb'
   obtain ⟨q,rfl,hq⟩:=hb' rfl
   exact (idxT hq).imp fun _ h=>h.1
  cases f
  case true =>
   obtain ⟨x,hx⟩:=failed b hb
   refine ⟨⟨[],[]⟩,x.At,2,Ev.step (Ev.of_eq (g:=fun n=>some (⟨[],[]⟩,x.At,2)) (fun n=>?_) (Ev.ret _)),ok0⟩
   simp only [ref1_Parse_L1,jn,Bool.not_true,cond_false,cond_true,hx,Option.bind_some]
  obtain ⟨t,h1,h2⟩:=idxT h
  by_cases hc : t.Kind ≠ 4 ∨ l.length = 0
  case neg =>
   have e1 : (t.Kind != 4) = false:=by simp; omega
   have e2 : (ln l == 0) = false:=by
    have : (l.length : Int) ≠ 0:=by omega
    simpa using this
   refine ⟨⟨l6,l⟩,0,0,Ev.step (Ev.of_eq (g:=fun n=>some (⟨l6,l⟩,0,0)) (fun n=>?_) (Ev.ret _)),hl6,hl,by simp only []; omega,hw⟩
   simp only [ref1_Parse_L1,jn,Bool.not_false,cond_true,h1,Option.bind_some,e1,e2,cond_false]
  obtain ⟨r45,w1,w2⟩:=word_ev k_go (f:=false) (b:=b) h
  obtain ⟨b',f1,f2⟩:=fail_ev (f:=false) h hb
  obtain ⟨x,hx⟩:=failed b' f2
  have head : ∀ n,ref1_Parse_L1 (n + 1) s r1 l2 i3 b4 i5 l6 (fun l29 i30 b31 i32 l33=>bif b31 then (idx T i32).bind fun x49=>some (⟨[],[]⟩,x49.At,2) else some (⟨l6,l33⟩,0,0)) T (at_ : Int) false b l =
    bif (bif !r45 then true else (ln l == 4)) then some (⟨[],[]⟩,x.At,2) else (ref1_Reader_block n ⟨T,(wr ((at_ : Int) + 1)),false,b⟩ s 1).bind fun r47=>bif room s_LStmt.i1.bytes l.length [r47.1].length then ref1_Parse_L1 n s r1 l2 i3 b4 i5 l6 (fun l29 i30 b31 i32 l33=>bif b31 then (idx T i32).bind fun x49=>some (⟨[],[]⟩,x49.At,2) else some (⟨l6,l33⟩,0,0)) r47.2.T r47.2.At r47.2.Fail r47.2.Bad (l ++ [r47.1]) else none:=by
   intro n
   have hc' : (bif (t.Kind != 4) then true else (ln l == 0)) = true:=by
    rcases hc with h | h
    ·have : (t.Kind != 4) = true:=by simpa using h
     rw [this]; rfl
    ·have : (ln l == 0) = true:=by show ((l.length : Int) == 0) = true; rw [h]; rfl
     rw [this]; cases (t.Kind != 4) <;> rfl
   cases hq : (t.Kind != 4)
   ·rw [hq,cond_false] at hc'
    cases r45 <;> simp only [ref1_Parse_L1,jn,Bool.not_false,Bool.not_true,cond_true,h1,Option.bind_some,hq,hc',cond_false,w1,f1,hx]
   ·cases r45 <;> simp only [ref1_Parse_L1,jn,Bool.not_false,Bool.not_true,cond_true,h1,Option.bind_some,hq,cond_false,w1,f1,hx]
  cases hgo : (bif !r45 then true else (ln l == 4))
  case true =>
   exact ⟨⟨[],[]⟩,x.At,2,Ev.step (Ev.of_eq (g:=fun n=>some (⟨[],[]⟩,x.At,2)) (fun n=>by rw [head,hgo]; rfl) (Ev.ret _)),ok0⟩
  have hr45 : r45 = true:=by cases r45 <;> simp at hgo ⊢
  have hl4 : l.length ≠ 4:=by
   subst hr45
   intro e
   have : (ln l == 4) = true:=by show ((l.length : Int) == 4) = true; rw [e]; rfl
   simp [this] at hgo
  obtain ⟨_,tt,t1,t2⟩:=w2 hr45
  have hlt:=g.last at_ tt t1 (by omega)
  obtain ⟨bl,at1,f1',b1,k1,k2,k3,k4,k5,k6,k7⟩:=block_ev g s hs (f:=false) (b:=b) hlt hb
  obtain ⟨p,i,e,n1,n2⟩:=ih at1 f1' b1 (l ++ [bl]) k3 (by omega) k4 (by simp; omega) (by rw [szT_app]; simp only [szT]; omega) (fun t ht=>by
   rcases List.mem_append.1 ht with h | h
   ·exact hw t h
   ·rw [List.mem_singleton.1 h]; exact k7)
  have hr : room s_LStmt.i1.bytes l.length [bl].length = true:=room_of (by
   have : s_LStmt.i1.bytes = 24:=rfl
   rw [this]; simp only [List.length_singleton]; omega)
  refine ⟨p,i,e,Ev.step (Ev.of_eq (g:=fun n=>(ref1_Reader_block n ⟨T,((at_ + 1 : Nat) : Int),false,b⟩ s 1).bind fun r47=>bif room s_LStmt.i1.bytes l.length [r47.1].length then ref1_Parse_L1 n s r1 l2 i3 b4 i5 l6 (fun l29 i30 b31 i32 l33=>bif b31 then (idx T i32).bind fun x49=>some (⟨[],[]⟩,x49.At,2) else some (⟨l6,l33⟩,0,0)) r47.2.T r47.2.At r47.2.Fail r47.2.Bad (l ++ [r47.1]) else none) (fun n=>by rw [head,hgo,wrT g h]; rfl) (Ev.bind k1 ?_)),n2⟩
  simp only [hr,cond_true]
  exact n1
theorem parse_ev (s : ByteArray) : ∃ p i e,Ev (fun n=>ref1_Parse n s) (p,i,e) ∧ okPr p:=by
 obtain ⟨T,k,e,h1,h2⟩:=toks_ev s
 have ok0 : okPr ⟨[],[]⟩:=⟨⟨by simp,by simp⟩,by simp,by simp [szT],by simp⟩
 by_cases he : e = 0
 case neg =>
  have he' : (e != 0) = true:=by simpa using he
  exact ⟨⟨[],[]⟩,k,e,Ev.of_eq (g:=fun n=>(ref1_Tokens n s).bind fun r1=>bif (r1.2.2 != 0) then some (⟨[],[]⟩,r1.2.1,r1.2.2) else ref1_Parse n s) (fun n=>by
   cases ht : ref1_Tokens n s with
   | none=>simp only [ref1_Parse,ht,Option.bind_none]
   | some r1 =>
    simp only [Option.bind_some]
    cases hq : (r1.2.2 != 0)
    ·rfl
    ·simp only [ref1_Parse,ht,Option.bind_some,hq,cond_true]) (Ev.bind h1 (Ev.yes he' (Ev.ret _))),ok0⟩
 obtain ⟨g,hs⟩:=h2.resolve_left (fun h=>h he)
 subst he
 obtain ⟨at',f',b',l',d1,d2,d3,d4⟩:=decls_L0 g s hs (T,k,0) (T.length - 0) 0 false 0 [] g.pos (Nat.le_refl _) (fun h=>by cases h) ⟨by simp,by simp⟩
 obtain ⟨p,i,e,t1,t2⟩:=threads_L1 g s hs (T,k,0) T (at' : Int) f' b' l' d4 (T.length - at') at' f' b' [] d2 (Nat.le_refl _) d3 (by simp) (by simp [szT]) (by simp)
 refine ⟨p,i,e,Ev.of_eq (g:=fun n=>(ref1_Tokens n s).bind fun r1=>bif (r1.2.2 != 0) then some (⟨[],[]⟩,r1.2.1,r1.2.2) else
  ref1_Parse_L0 n s r1 (un0 fun q=>ref1_Parse_L1 n s r1 q.1 q.2.1 q.2.2.1 q.2.2.2.1 q.2.2.2.2 (fun l29 i30 b31 i32 l33=>bif b31 then (idx r1.1 i32).bind fun x49=>some (⟨[],[]⟩,x49.At,2) else some (⟨q.2.2.2.2,l33⟩,0,0)) q.1 q.2.1 q.2.2.1 q.2.2.2.1 []) r1.1 0 false 0 []) (fun n=>by simp only [ref1_Parse,jn]) (Ev.bind h1 (Ev.no rfl ?_)),t2⟩
 obtain ⟨k1,hk1⟩:=d1
 obtain ⟨k2,hk2⟩:=t1
 refine ⟨max k1 k2,fun n hn=>?_⟩
 have:=hk1 n (by omega) (fun q=>ref1_Parse_L1 n s (T,k,0) q.1 q.2.1 q.2.2.1 q.2.2.2.1 q.2.2.2.2 (fun l29 i30 b31 i32 l33=>bif b31 then (idx T i32).bind fun x49=>some (⟨[],[]⟩,x49.At,2) else some (⟨q.2.2.2.2,l33⟩,0,0)) q.1 q.2.1 q.2.2.1 q.2.2.2.1 [])
 exact this.trans (hk2 n (by omega))
end
end Go.Su.Ytkmcnajbhclimaa
namespace Go.Su.Ytkmcnajbhclimaa
open Go.Mx Go.Proofs
set_option linter.unusedVariables false
set_option linter.unusedSimpArgs false
set_option maxHeartbeats 4000000
def rr (n : Nat) (a0 : Int) (a1 a2 a3 : List Act) (a4 : Int) (w : ByteArray) (p : Prog) (gs : List (List ByteArray)) (I : List Arr2_i64) : Option Bool :=
 bif ((ranks I gs.length).2 == 0) then
  bif ((ln (ranks I gs.length).1) != (ln gs)) then some false
  else bif mroom s_bool.i1.bytes (ln gs) then law25_RankRises_L0 n a0 a1 a2 a3 a4 w p gs I (ranks I gs.length) true (List.replicate (ln gs).toNat (false : Bool)) 0
  else none
 else rises_map n gs I (ranks I gs.length).1 (ranks I gs.length).2
def mk2 (b1 b2 : Bool) : List Arr2_i64:=(bif b1 then [⟨0,1⟩] else []) ++ (bif b2 then [⟨1,0⟩] else [])
def mk3 (b1 b2 b3 b4 b5 b6 : Bool) : List Arr2_i64:=(bif b1 then [⟨0,1⟩] else []) ++ ((bif b2 then [⟨0,2⟩] else []) ++ ((bif b3 then [⟨1,0⟩] else []) ++ ((bif b4 then [⟨1,2⟩] else []) ++ ((bif b5 then [⟨2,0⟩] else []) ++ (bif b6 then [⟨2,1⟩] else [])))))
theorem pas1 (E A : List Int) : pas E [A] [A] 0 = []:=by simp [pas,pbs]
theorem pas2 (E A B : List Int) : pas E [A,B] [A,B] 0 = mk2 (ins E A B) (ins E B A):=by
 simp only [mk2,pas,pbs]
 cases ins E A B <;> cases ins E B A <;> rfl
theorem pas3 (E A B C : List Int) : pas E [A,B,C] [A,B,C] 0 = mk3 (ins E A B) (ins E A C) (ins E B A) (ins E B C) (ins E C A) (ins E C B):=by
 simp only [mk3,pas,pbs]
 cases ins E A B <;> cases ins E A C <;> cases ins E B A <;> cases ins E B C <;> cases ins E C A <;> cases ins E C B <;> rfl
section
variable (a0 : Int) (a1 a2 a3 : List Act) (a4 : Int) (w : ByteArray) (p : Prog)
set_option maxRecDepth 1000000 in
theorem rr0 (k : Nat) : rr (k + 200) a0 a1 a2 a3 a4 w p [] [] = some true:=by kernel_rfl
set_option maxRecDepth 1000000 in
theorem rr1 (k : Nat) (x : List ByteArray) : rr (k + 200) a0 a1 a2 a3 a4 w p [x] [] = some true:=by kernel_rfl
set_option maxRecDepth 1000000 in
theorem rr2 (k : Nat) (x y : List ByteArray) (b1 b2 : Bool) : rr (k + 200) a0 a1 a2 a3 a4 w p [x,y] (mk2 b1 b2) = some true:=by
 cases b1 <;> cases b2 <;> kernel_rfl
set_option maxRecDepth 1000000 in
theorem rr3 (k : Nat) (x y z : List ByteArray) (b1 b2 b3 b4 b5 b6 : Bool) : rr (k + 200) a0 a1 a2 a3 a4 w p [x,y,z] (mk3 b1 b2 b3 b4 b5 b6) = some true:=by
 cases b1 <;> cases b2 <;> cases b3 <;> cases b4 <;> cases b5 <;> cases b6 <;> kernel_rfl
theorem rr_ev (E : List Int) (f : List ByteArray → List Int) (gs : List (List ByteArray)) (hg : gs.length ≤ 3) : Ev (fun n=>rr n a0 a1 a2 a3 a4 w p gs (pas E (gs.map f) (gs.map f) 0)) true:=by
 refine ⟨200,fun n hn=>?_⟩
 obtain ⟨k,rfl⟩ : ∃ k,n = k + 200:=⟨n - 200,by omega⟩
 match gs,hg with
 | [],_=>exact rr0 a0 a1 a2 a3 a4 w p k
 | [x],_ =>
  show rr (k + 200) a0 a1 a2 a3 a4 w p [x] (pas E [f x] [f x] 0) = some true
  rw [pas1]; exact rr1 a0 a1 a2 a3 a4 w p k x
 | [x,y],_ =>
  show rr (k + 200) a0 a1 a2 a3 a4 w p [x,y] (pas E [f x,f y] [f x,f y] 0) = some true
  rw [pas2]; exact rr2 a0 a1 a2 a3 a4 w p k x y _ _
 | [x,y,z],_ =>
  show rr (k + 200) a0 a1 a2 a3 a4 w p [x,y,z] (pas E [f x,f y,f z] [f x,f y,f z] 0) = some true
  rw [pas3]; exact rr3 a0 a1 a2 a3 a4 w p k x y z _ _ _ _ _ _
 | x :: y :: z :: u :: r,h=>exact absurd h (by simp)
end
theorem law25_RankRises_true (a0 : Int) (a1 a2 a3 : List Act) (a4 : Int) (h0 : okInt .i64 a0) (h1 : okActs a1) (h2 : okActs a2) (h3 : okActs a3) (h4 : okInt .i64 a4) : ∃ n,law25_RankRises n a0 a1 a2 a3 a4 = some true:=by
 obtain ⟨w,hw⟩:=Good_ev a0 a1 a2 a3 5 (by omega)
 obtain ⟨⟨D,ts⟩,i,e,hpar,ok1⟩:=parse_ev w
 obtain ⟨okD,okn,okz,okw⟩:=ok1
 simp only at okD okn okz okw
 have hread : Ev (fun n=>law25_read n w) ⟨D,ts⟩:=Ev.of_eq (g:=fun n=>(ref1_Parse n w).bind fun r1=>some r1.1) (fun n=>by simp only [law25_read]) (Ev.bind hpar (Ev.ret _))
 obtain ⟨gs,g1,g2,g3⟩:=groups_eq a4
 have hO:=Order_ev D ts gs (by omega) (by omega) (fun g hg=>by have:=g3 g hg; omega)
 have hI:=Inside_ev D ts gs (by omega) (by omega) (fun g hg=>by have:=g3 g hg; omega)
 have hR:=rr_ev a0 a1 a2 a3 a4 w ⟨D,ts⟩ (enL (flats ts) 0) (wf ts) gs g2
 refine Ev.get ?_
 refine Ev.of_eq (g:=fun n=>(hand_Good n a0 a1 a2 a3 5).bind fun r1=>(law25_read n r1).bind fun r2=>(rank_Inside n r2 gs).bind fun r4=>(rank_Order n r2 gs).bind fun r5=>(law25_known n).bind fun r6=>bif !r6 then some false else bif (r5.2 == 0) then (bif ((ln r5.1) != (ln gs)) then some false else bif mroom s_bool.i1.bytes (ln gs) then law25_RankRises_L0 n a0 a1 a2 a3 a4 r1 r2 gs r4 r5 r6 (List.replicate (ln gs).toNat (false : Bool)) 0 else none) else rises_map n gs r4 r5.1 r5.2) (fun n=>by simp only [law25_RankRises,g1,Option.bind_some]) ?_
 exact Ev.bind hw (Ev.bind hread (Ev.bind hI (Ev.bind hO (Ev.bind known25_ev (Ev.no rfl hR)))))
end Go.Su.Ytkmcnajbhclimaa
