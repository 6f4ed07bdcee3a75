/-
  What is wrapped covers what touches, once.
-/
import Derived.Test.YtkmcnajbhclimaaZrDx12
import Derived.Test.YtkmcnajbhclimaaZrRRF
namespace Go.Mx
set_option linter.unusedVariables false
def Ev {α : Type} (f : Nat → Option α) (r : α) : Prop:=∃ k,∀ n,k ≤ n → f n = some r
namespace Ev
variable {α β : Type}
theorem get {f : Nat → Option α} {r : α} (h : Ev f r) : ∃ n,f n = some r:=by
 obtain ⟨k,hk⟩:=h
 exact ⟨k,hk k (Nat.le_refl _)⟩
theorem ret (r : α) : Ev (fun _=>some r) r:=⟨0,fun _ _=>rfl⟩
theorem of_eq {f g : Nat → Option α} {r : α} (h : ∀ n,f n = g n) (hg : Ev g r) : Ev f r:=by
 obtain ⟨k,hk⟩:=hg
 exact ⟨k,fun n hn=>(h n).trans (hk n hn)⟩
theorem step {f : Nat → Option α} {r : α} (h : Ev (fun n=>f (n + 1)) r) : Ev f r:=by
 obtain ⟨k,hk⟩:=h
 refine ⟨k + 1,fun n hn=>?_⟩
 obtain ⟨m,rfl⟩ : ∃ m,n = m + 1:=⟨n - 1,by omega⟩
 exact hk m (by omega)
theorem bind {f : Nat → Option α} {g : Nat → α → Option β} {x : α} {r : β} (h : Ev f x) (h' : Ev (fun n=>g n x) r) : Ev (fun n=>(f n).bind (g n)) r:=by
 obtain ⟨k,hk⟩:=h
 obtain ⟨k',hk'⟩:=h'
 refine ⟨max k k',fun n hn=>?_⟩
 show (f n).bind (g n) = some r
 rw [hk n (by omega)]
 exact hk' n (by omega)
theorem opt {o : Option α} {g : Nat → α → Option β} {x : α} {r : β} (h : o = some x) (h' : Ev (fun n=>g n x) r) : Ev (fun n=>o.bind (g n)) r:=by
 subst h; exact h'
theorem yes {b : Bool} {f g : Nat → Option α} {r : α} (hb : b = true) (ht : Ev f r) : Ev (fun n=>bif b then f n else g n) r:=by
 subst hb; exact ht
theorem no {b : Bool} {f g : Nat → Option α} {r : α} (hb : b = false) (hf : Ev g r) : Ev (fun n=>bif b then f n else g n) r:=by
 subst hb; exact hf
end Ev
theorem wr_of {x : Int} (h : -9223372036854775808 ≤ x ∧ x ≤ 9223372036854775807) : wr x = x:=by
 have e : wr x = (x + 9223372036854775808) % 18446744073709551616 - 9223372036854775808:=by
  simp only [wr,IntKind.wrap,IntKind.bits,IntKind.signed,Bool.true_and]
  by_cases h0 : x % 18446744073709551616 ≥ 9223372036854775808
  ·rw [if_pos (by simpa using h0)]; omega
  ·rw [if_neg (by simpa using h0)]; omega
 rw [e]; omega
theorem room_of {bt a b : Nat} (h : (a + b) * bt ≤ 140737488355328) : room bt a b = true:=by
 unfold room; simpa using h
theorem idx_of {α : Type} {l : List α} {n : Int} {a : α} (h0 : 0 ≤ n) (h : l[n.toNat]? = some a) : idx l n = some a:=by
 unfold idx
 rw [h]
 have : ¬ n < 0:=by omega
 simp [this]
theorem gomin_eq (a b : Int) : gomin a b = min a b:=by
 unfold gomin; split <;> omega
theorem gomax_eq (a b : Int) : gomax a b = max a b:=by
 unfold gomax; split <;> omega
end Go.Mx
namespace Go.Su.Ytkmcnajbhclimaa
open Go.Mx Go.Proofs
set_option linter.unusedVariables false
set_option linter.unusedSimpArgs false
set_option maxHeartbeats 4000000
theorem pick_eq (n : Nat) (a k : Int) (hk : 0 < k) (hk2 : k ≤ 1000000) : hand_Pick n a k = some (a % k):=by
 have h1 : (k == 0) = false:=by simp; omega
 have h2 : a.tmod k = if 0 ≤ a then a % k else -((-a) % k):=by
  by_cases h : 0 ≤ a
  ·rw [if_pos h,Int.tmod_eq_emod_of_nonneg h]
  ·rw [if_neg h,← Int.tmod_eq_emod_of_nonneg (by omega : 0 ≤ -a),Int.neg_tmod,Int.neg_neg]
 have h3:=Int.emod_nonneg a (by omega : k ≠ 0)
 have h4:=Int.emod_lt_of_pos a hk
 have h5:=Int.emod_nonneg (-a) (by omega : k ≠ 0)
 have h6:=Int.emod_lt_of_pos (-a) hk
 show (bif (k == 0) then none else bif decide (a.tmod k < 0) then some (wr (a.tmod k + k)) else some (a.tmod k)) = _
 rw [h1,cond_false]
 by_cases h : 0 ≤ a
 ·rw [if_pos h] at h2
  rw [h2,show decide (a % k < 0) = false by simp; omega,cond_false]
 ·rw [if_neg h] at h2
  rw [h2]
  by_cases h7 : (-a) % k = 0
  ·have h8 : a % k = 0:=Int.emod_eq_zero_of_dvd (Int.dvd_neg.1 (Int.dvd_of_emod_eq_zero h7))
   rw [h7,h8]; rfl
  ·have h8 : a % k = k - (-a) % k:=by
    have e1 : a = k * (a / k) + a % k:=(Int.mul_ediv_add_emod a k).symm
    have e2 : -a = k * ((-a) / k) + (-a) % k:=(Int.mul_ediv_add_emod (-a) k).symm
    have e3 : (a % k + (-a) % k) % k = 0:=by rw [← Int.add_emod,show a + -a = 0 by omega,Int.zero_emod]
    have e4 : 0 < a % k + (-a) % k:=by omega
    have e5 : a % k + (-a) % k < 2 * k:=by omega
    obtain ⟨c,hc⟩:=Int.dvd_of_emod_eq_zero e3
    have : c = 1:=by
     have c1 : 0 < c:=by
      by_cases h : 0 < c
      ·exact h
      ·have:=Int.mul_nonneg (by omega : 0 ≤ k) (by omega : 0 ≤ -c); rw [Int.mul_neg] at this; omega
     have c2 : c < 2:=by
      by_cases h : c < 2
      ·exact h
      ·have:=Int.mul_le_mul_of_nonneg_left (by omega : 2 ≤ c) (by omega : 0 ≤ k); omega
     omega
    subst this; omega
   rw [h8,show decide (-((-a) % k) < 0) = true by simp; omega,cond_true,wr_of (by omega)]
   congr 1; omega
theorem sub_of {α : Type} {l : List α} {a b : Nat} (h1 : a ≤ b) (h2 : b ≤ l.length) : sub l (a : Int) (b : Int) = some ((l.drop a).take (b - a)):=by
 unfold sub
 have : (decide ((0 : Int) ≤ a) && decide ((a : Int) ≤ b) && decide ((b : Int) ≤ l.length)) = true:=by simp; omega
 rw [this]; simp
theorem sub_tail {α : Type} (x : α) (l : List α) : sub (x :: l) 1 (ln (x :: l)) = some l:=by
 exact (sub_of (l:=x :: l) (a:=1) (b:=(x :: l).length) (by simp) (Nat.le_refl _)).trans (by simp)
mutual
def szE : Expr → Nat
 | ⟨_,_,_,l⟩=>1 + szEl l
def szEl : List Expr → Nat
 | []=>0
 | e :: r=>szE e + szEl r
end
theorem szE_mk (k n : Int) (w : ByteArray) (l : List Expr) : szE ⟨k,n,w,l⟩ = 1 + szEl l:=by rw [szE]
def okE : Nat → Expr → Prop
 | 0,_=>False
 | d + 1,e=>(e.Kind = 1 ∧ 0 ≤ e.N ∧ e.N ≤ 4 ∧ e.Name = b0 ∧ e.Of = []) ∨ (e.Kind = 2 ∧ e.N = 0 ∧ (e.Name ∈ [k_x,k_y,k_z,k_a,k_t]) ∧ e.Of = []) ∨
  (e.Kind = 3 ∧ e.N = 0 ∧ e.Name = b0 ∧ ∃ x,e.Of = [x] ∧ okE d x) ∨ (4 ≤ e.Kind ∧ e.Kind ≤ 10 ∧ e.N = 0 ∧ e.Name = b0 ∧ ∃ x y,e.Of = [x,y] ∧ okE d x ∧ okE d y)
theorem plain_ev (a : Int) : ∃ w,(∀ n,hand_plain n a = some w) ∧ w ∈ [k_x,k_y,k_z,k_a,k_t]:=by
 have h:=Int.emod_nonneg a (show (8 : Int) ≠ 0 by omega)
 have h2:=Int.emod_lt_of_pos a (show (0 : Int) < 8 by omega)
 have key : ∀ r : Int,0 ≤ r → r < 8 → ∃ w,(idx [k_x,k_x,k_y,k_z,k_a,k_t,k_x,k_y] r).bind (fun x2=>some x2) = some w ∧ w ∈ [k_x,k_y,k_z,k_a,k_t]:=by
  intro r h0 h1
  have : r = 0 ∨ r = 1 ∨ r = 2 ∨ r = 3 ∨ r = 4 ∨ r = 5 ∨ r = 6 ∨ r = 7:=by omega
  rcases this with rfl | rfl | rfl | rfl | rfl | rfl | rfl | rfl <;> exact ⟨_,rfl,by simp⟩
 obtain ⟨w,h3,h4⟩:=key _ h h2
 refine ⟨w,fun n=>?_,h4⟩
 unfold hand_plain
 rw [pick_eq n a 8 (by omega) (by omega)]
 exact h3
theorem expr_ev : ∀ (m : Nat) (l : List Int) (d : Nat),l.length ≤ m → d ≤ 6 → l.length ≤ 9223372036854775807 → ∃ e,Ev (fun n=>hand_Expr n l d) e ∧ okE (l.length + 1) e ∧ szE e ≤ 2 * l.length + 1 ∧ szE e + 1 ≤ 2 ^ (7 - d):=by
 intro m
 induction m with
 | zero =>
  intro l d hl hd hL
  have : l = []:=by cases l with
   | nil=>rfl
   | cons a r=>simp at hl
  subst this
  have p1:=Nat.one_le_two_pow (n:=6 - d)
  have e7 : 2 ^ (7 - d) = 2 * 2 ^ (6 - d):=by rw [show 7 - d = (6 - d) + 1 by omega,Nat.pow_succ]; omega
  refine ⟨⟨1,1,b0,[]⟩,Ev.step (Ev.of_eq (fun n=>by simp only [hand_Expr]; rfl) (Ev.ret _)),by simp [okE],by simp [szE,szEl],by simp [szE,szEl]; omega⟩
 | succ m ih =>
  intro l d hl hd hL
  have p1:=Nat.one_le_two_pow (n:=6 - d)
  have e7 : 2 ^ (7 - d) = 2 * 2 ^ (6 - d):=by rw [show 7 - d = (6 - d) + 1 by omega,Nat.pow_succ]; omega
  have e8 : 2 ^ (7 - (d + 1)) = 2 ^ (6 - d):=by rw [show 7 - (d + 1) = 6 - d by omega]
  cases l with
  | nil=>exact ⟨⟨1,1,b0,[]⟩,Ev.step (Ev.of_eq (fun n=>by simp only [hand_Expr]; rfl) (Ev.ret _)),by simp [okE],by simp [szE,szEl],by simp [szE,szEl]; omega⟩
  | cons x l =>
   simp only [List.length_cons] at hl hL
   have hp : ∀ n,hand_Pick n x 16 = some (x % 16):=fun n=>pick_eq n x 16 (by omega) (by omega)
   have hlen : (ln (x :: l) == 0) = false:=by simp
   have h0 : idx (x :: l) 0 = some x:=rfl
   have r0:=Int.emod_nonneg x (show (16 : Int) ≠ 0 by omega)
   have r1:=Int.emod_lt_of_pos x (show (0 : Int) < 16 by omega)
   obtain ⟨w,hw,hw2⟩:=plain_ev (wr (x.tdiv 16))
   by_cases hb : x % 16 < 5 ∨ 5 < d
   ·refine ⟨⟨2,0,w,[]⟩,Ev.step (Ev.of_eq (g:=fun _=>some ⟨2,0,w,[]⟩) (fun n=>?_) (Ev.ret _)),.inr (.inl ⟨rfl,rfl,hw2,rfl⟩),by simp [szE,szEl],by simp [szE,szEl]; omega⟩
    simp only [hand_Expr,hlen,cond_false,h0,Option.bind_some,hp,jn,hw,cond_true]
    by_cases h5 : x % 16 < 5
    ·simp [h5]
    ·have : (5 : Int) < d:=by omega
     simp [h5,this]
   ·have b1 : decide (x % 16 < 5) = false:=by simp; omega
    have b2 : decide ((d : Int) > 5) = false:=by simp; omega
    have hwd : wr ((d : Int) + 1) = ((d + 1 : Nat) : Int):=by rw [wr_of (by omega)]; rfl
    by_cases h8 : x % 16 < 8
    ·have p5 : ∀ n,hand_Pick n (wr (x.tdiv 16)) 5 = some (wr (x.tdiv 16) % 5):=fun n=>pick_eq n _ 5 (by omega) (by omega)
     refine ⟨⟨1,wr (x.tdiv 16) % 5,b0,[]⟩,Ev.step (Ev.of_eq (g:=fun _=>some ⟨1,wr (x.tdiv 16) % 5,b0,[]⟩) (fun n=>?_) (Ev.ret _)),.inl ⟨rfl,?_,?_,rfl,rfl⟩,by simp [szE,szEl],by simp [szE,szEl]; omega⟩
     ·simp only [hand_Expr,hlen,cond_false,h0,Option.bind_some,hp,jn,b1,b2,h8,decide_true,cond_true,p5]
     ·exact Int.emod_nonneg _ (by omega)
     ·have:=Int.emod_lt_of_pos (wr (x.tdiv 16)) (show (0 : Int) < 5 by omega); show wr (x.tdiv 16) % 5 ≤ 4; omega
    ·by_cases h9 : x % 16 = 8
     ·obtain ⟨e,he,h1,h2,s2'⟩:=ih l (d + 1) (by omega) (by omega) (by omega)
      refine ⟨⟨3,0,b0,[e]⟩,Ev.step (Ev.of_eq (g:=fun n=>(hand_Expr n l ((d + 1 : Nat) : Int)).bind fun r9=>some ⟨3,0,b0,[r9]⟩) (fun n=>?_) (Ev.bind he (Ev.ret _))),.inr (.inr (.inl ⟨rfl,rfl,rfl,e,rfl,?_⟩)),?_,?_⟩
      ·simp only [hand_Expr,hlen,cond_false,h0,Option.bind_some,hp,jn,b1,b2,h8,decide_false,h9,sub_tail,hwd]
       try rfl
      ·exact h1
      ·rw [szE_mk,szEl,szEl]; simp only [List.length_cons]; omega
      ·rw [szE_mk,szEl,szEl]; omega
     ·have p7 : ∀ n,hand_Pick n (wr (x.tdiv 16)) 7 = some (wr (x.tdiv 16) % 7):=fun n=>pick_eq n _ 7 (by omega) (by omega)
      have q0:=Int.emod_nonneg (wr (x.tdiv 16)) (show (7 : Int) ≠ 0 by omega)
      have q1:=Int.emod_lt_of_pos (wr (x.tdiv 16)) (show (0 : Int) < 7 by omega)
      have hm : wr (1 + wr ((ln (x :: l)).tdiv 2)) = ((1 + (l.length + 1) / 2 : Nat) : Int):=by
       have : (ln (x :: l)).tdiv 2 = (((l.length + 1) / 2 : Nat) : Int):=by
        show (((l.length + 1 : Nat) : Int)).tdiv 2 = _
        rw [Int.tdiv_eq_ediv_of_nonneg (by omega)]; rfl
       rw [this,wr_of (x:=(((l.length + 1) / 2 : Nat) : Int)) (by omega),wr_of (by omega)]; rfl
      have s1:=sub_of (l:=x :: l) (a:=1) (b:=1 + (l.length + 1) / 2) (by omega) (by simp only [List.length_cons]; omega)
      have s2:=sub_of (l:=x :: l) (a:=1 + (l.length + 1) / 2) (b:=(x :: l).length) (by simp only [List.length_cons]; omega) (Nat.le_refl _)
      generalize hl1 : ((x :: l).drop 1).take (1 + (l.length + 1) / 2 - 1) = l1 at s1
      generalize hl2 : ((x :: l).drop (1 + (l.length + 1) / 2)).take ((x :: l).length - (1 + (l.length + 1) / 2)) = l2 at s2
      have n1 : l1.length ≤ (l.length + 1) / 2 ∧ l1.length ≤ l.length:=by rw [← hl1]; simp only [List.length_take,List.length_drop,List.length_cons]; omega
      have n2 : l1.length + l2.length = l.length:=by rw [← hl1,← hl2]; simp only [List.length_take,List.length_drop,List.length_cons]; omega
      obtain ⟨e,he,h1,h2,s3'⟩:=ih l1 (d + 1) (by omega) (by omega) (by omega)
      obtain ⟨f,hf,h3,h4,s4'⟩:=ih l2 (d + 1) (by omega) (by omega) (by omega)
      have up : ∀ (k : Nat) (e : Expr),okE k e → ∀ j,k ≤ j → okE j e:=by
       intro k
       induction k with
       | zero=>intro e h; exact h.elim
       | succ k ihk =>
        intro e h j hj
        obtain ⟨j,rfl⟩ : ∃ j',j = j' + 1:=⟨j - 1,by omega⟩
        rcases h with h | h | ⟨a1,a2,a3,x,a4,a5⟩ | ⟨a1,a2,a3,a4,x,y,a5,a6,a7⟩
        ·exact .inl h
        ·exact .inr (.inl h)
        ·exact .inr (.inr (.inl ⟨a1,a2,a3,x,a4,ihk x a5 j (by omega)⟩))
        ·exact .inr (.inr (.inr ⟨a1,a2,a3,a4,x,y,a5,ihk x a6 j (by omega),ihk y a7 j (by omega)⟩))
      refine ⟨⟨wr (4 + wr (x.tdiv 16) % 7),0,b0,[e,f]⟩,Ev.step (Ev.of_eq (g:=fun n=>(hand_Expr n l1 ((d + 1 : Nat) : Int)).bind fun r12=>(hand_Expr n l2 ((d + 1 : Nat) : Int)).bind fun r14=>some ⟨wr (4 + wr (x.tdiv 16) % 7),0,b0,[r12,r14]⟩) (fun n=>?_) (Ev.bind he (Ev.bind hf (Ev.ret _)))),.inr (.inr (.inr ⟨?_,?_,rfl,rfl,e,f,rfl,up _ e h1 _ (by simp only [List.length_cons]; omega),up _ f h3 _ (by simp only [List.length_cons]; omega)⟩)),?_,?_⟩
      ·have b9 : (x % 16 == 8) = false:=by simp [h9]
       have s1' : sub (x :: l) 1 ((1 + (l.length + 1) / 2 : Nat) : Int) = some l1:=s1
       simp only [hand_Expr,hlen,cond_false,h0,Option.bind_some,hp,jn,b1,b2,h8,decide_false,b9,p7,hm,hwd,s1',s2]
      ·show 4 ≤ wr _; rw [wr_of (by omega)]; omega
      ·show wr _ ≤ 10; rw [wr_of (by omega)]; omega
      ·rw [szE_mk,szEl,szEl,szEl]; simp only [List.length_cons]; omega
      ·rw [szE_mk,szEl,szEl,szEl]; omega
theorem okE_up : ∀ (k : Nat) (e : Expr),okE k e → ∀ j,k ≤ j → okE j e:=by
 intro k
 induction k with
 | zero=>intro e h; exact h.elim
 | succ k ihk =>
  intro e h j hj
  obtain ⟨j,rfl⟩ : ∃ j',j = j' + 1:=⟨j - 1,by omega⟩
  rcases h with h | h | ⟨a1,a2,a3,x,a4,a5⟩ | ⟨a1,a2,a3,a4,x,y,a5,a6,a7⟩
  ·exact .inl h
  ·exact .inr (.inl h)
  ·exact .inr (.inr (.inl ⟨a1,a2,a3,x,a4,ihk x a5 j (by omega)⟩))
  ·exact .inr (.inr (.inr ⟨a1,a2,a3,a4,x,y,a5,ihk x a6 j (by omega),ihk y a7 j (by omega)⟩))
theorem short_ev (x : Act) : ∃ e,Ev (fun n=>hand_short n x) e ∧ okE 4 e ∧ szE e ≤ 7:=by
 by_cases h : 3 < x.E.length
 ·have s:=sub_of (l:=x.E) (a:=0) (b:=3) (by omega) (by omega)
  obtain ⟨e,he,h1,h2,_⟩:=expr_ev 3 ((x.E.drop 0).take (3 - 0)) 0 (by simp; omega) (by omega) (by simp; omega)
  have hl : ((x.E.drop 0).take (3 - 0)).length = 3:=by simp; omega
  rw [hl] at h1 h2
  refine ⟨e,?_,h1,h2⟩
  refine Ev.of_eq (g:=fun n=>(hand_Expr n ((x.E.drop 0).take (3 - 0)) 0).bind fun r=>some r) (fun n=>?_) (Ev.bind he (Ev.ret _))
  have s' : sub x.E 0 3 = some ((x.E.drop 0).take (3 - 0)):=s
  have hd : decide (ln x.E > 3) = true:=decide_eq_true (by show (x.E.length : Int) > 3; omega)
  simp only [hand_short,jn,hd,cond_true,s',Option.bind_some]
 ·obtain ⟨e,he,h1,h2,_⟩:=expr_ev 3 x.E 0 (by omega) (by omega) (by omega)
  refine ⟨e,?_,okE_up _ e h1 4 (by omega),by omega⟩
  refine Ev.of_eq (g:=fun n=>(hand_Expr n x.E 0).bind fun r=>some r) (fun n=>?_) (Ev.bind he (Ev.ret _))
  have hd : decide (ln x.E > 3) = false:=decide_eq_false (by show ¬ (x.E.length : Int) > 3; omega)
  simp only [hand_short,jn,hd,cond_false]
def eN : Expr:=⟨0,0,b0,[]⟩
inductive okH : Stmt → Prop
 | assign (w e) (hw : w ∈ [k_x,k_y,k_z,k_a,k_t]) (he : okE 4 e) : okH ⟨1,w,b0,0,e,[],[],c0⟩
 | lock : okH ⟨2,k_m,b0,0,eN,[],[],c0⟩
 | unlock : okH ⟨3,k_m,b0,0,eN,[],[],c0⟩
 | send (w e) (hw : w ∈ [k_c,k_d]) (he : okE 4 e) : okH ⟨4,w,b0,0,e,[],[],c0⟩
 | recv (w v) (hw : w ∈ [k_c,k_d]) (hv : v ∈ [k_x,k_y,k_z,k_a,k_t]) : okH ⟨5,w,v,0,eN,[],[],c0⟩
 | print (e) (he : okE 4 e) : okH ⟨6,b0,b0,0,e,[],[],c0⟩
 | cond (e b l) (he : okE 4 e) : okH ⟨7,b0,b0,0,e,b,l,c0⟩
 | rep (k b) (h0 : 0 ≤ k) (h1 : k ≤ 2) : okH ⟨8,b0,b0,k,eN,b,[],c0⟩
 | goto (w) (hw : w ∈ [k_l,k_k]) : okH ⟨9,w,b0,0,eN,[],[],c0⟩
 | label (w) (hw : w ∈ [k_l,k_k]) : okH ⟨10,w,b0,0,eN,[],[],c0⟩
mutual
def okS : Nat → Stmt → Prop
 | d,⟨k,w,v,m,e,b,l,at_⟩=>okH ⟨k,w,v,m,e,b,l,at_⟩ ∧ (d = 0 → b = [] ∧ l = []) ∧ szE e ≤ 7 ∧ okSl (d - 1) b ∧ okSl (d - 1) l
def okSl : Nat → List Stmt → Prop
 | _,[]=>True
 | d,s :: r=>okS d s ∧ okSl d r
end
mutual
def wt : Stmt → Nat
 | ⟨_,_,_,_,_,b,l,_⟩=>10 + 2 * (wtl b + wtl l)
def wtl : List Stmt → Nat
 | []=>0
 | s :: r=>wt s + wtl r
end
theorem two_ev (a : Int) (u v : ByteArray) : ∃ r w,(∀ n,hand_Pick n a 2 = some r) ∧ idx [u,v] r = some w ∧ w ∈ [u,v] ∧ 0 ≤ r ∧ r ≤ 1:=by
 have h:=Int.emod_nonneg a (show (2 : Int) ≠ 0 by omega)
 have h2:=Int.emod_lt_of_pos a (show (0 : Int) < 2 by omega)
 have : a % 2 = 0 ∨ a % 2 = 1:=by omega
 rcases this with e | e
 ·exact ⟨a % 2,u,fun n=>pick_eq n a 2 (by omega) (by omega),by rw [e]; rfl,by simp,by omega,by omega⟩
 ·exact ⟨a % 2,v,fun n=>pick_eq n a 2 (by omega) (by omega),by rw [e]; rfl,by simp,by omega,by omega⟩
def cw (d : Nat) : Nat:=10 * 2 ^ d
def handK (n : Nat) (a0 : List Act) (a1 a2 : Int) (l2 : List Stmt) (l8 : List Act) (s : Stmt) : Option (List Stmt × List Act) :=
 bif room s_Stmt.i1.bytes l2.length [s].length then hand_stmts_L0 n a0 a1 a2 l8 (l2 ++ [s]) else none
theorem stmts_L0 (a1 : Int) (h1 : a1 ≤ 100) : ∀ (m : Nat) (l1 : List Act),l1.length ≤ m → ∀ (d : Nat) (a0 : List Act) (l2 : List Stmt),d ≤ 2 → l2.length ≤ 100 →
  ∀ a1 : Int,a1 ≤ 100 → ∃ out rest,Ev (fun n=>hand_stmts_L0 n a0 a1 (3 - d : Nat) l1 l2) (l2 ++ out,rest) ∧ okSl d out ∧ rest.length ≤ l1.length ∧ wtl out + cw d * rest.length ≤ cw d * l1.length:=by
 intro m
 induction m with
 | zero =>
  intro l1 hl d a0 l2 hd h2 a1 h1
  have : l1 = []:=by cases l1 with
   | nil=>rfl
   | cons a r=>simp at hl
  subst this
  refine ⟨[],[],Ev.step (Ev.of_eq (g:=fun _=>some (l2,[])) (fun n=>?_) (by simpa using Ev.ret _)),by simp [okSl],by simp,by simp [wtl]⟩
  simp only [hand_stmts_L0,jn]
  cases decide (ln l2 < a1) <;> rfl
 | succ m ih =>
  intro l1 hl d a0 l2 hd h2 a1 h1
  by_cases hlt : (l2.length : Int) < a1
  case neg =>
   refine ⟨[],l1,Ev.step (Ev.of_eq (g:=fun _=>some (l2,l1)) (fun n=>?_) (by simpa using Ev.ret _)),by simp [okSl],by simp,by simp [wtl]⟩
   have : decide (ln l2 < a1) = false:=decide_eq_false hlt
   simp only [hand_stmts_L0,jn,this,cond_false]
  cases l1 with
  | nil =>
   refine ⟨[],[],Ev.step (Ev.of_eq (g:=fun _=>some (l2,[])) (fun n=>?_) (by simpa using Ev.ret _)),by simp [okSl],by simp,by simp [wtl]⟩
   simp only [hand_stmts_L0,jn]
   cases decide (ln l2 < a1) <;> rfl
  | cons x l6 =>
   simp only [List.length_cons] at hl
   have e1 : decide (ln l2 < a1) = true:=decide_eq_true hlt
   have e2 : decide (ln (x :: l6) > 0) = true:=decide_eq_true (by show ((l6.length + 1 : Nat) : Int) > 0; omega)
   have e3 : idx (x :: l6) 0 = some x:=rfl
   have e4:=sub_tail x l6
   have e5 : ∀ n,hand_Pick n x.What 24 = some (x.What % 24):=fun n=>pick_eq n _ 24 (by omega) (by omega)

   have more : ∀ (l8 : List Act) (s : Stmt),l8.length ≤ l6.length → okS d s → wt s + cw d * l8.length ≤ cw d * (l6.length + 1) →
     ∃ out rest,Ev (fun n=>handK n a0 a1 (3 - d : Nat) l2 l8 s) (l2 ++ out,rest) ∧ okSl d out ∧ rest.length ≤ l6.length + 1 ∧ wtl out + cw d * rest.length ≤ cw d * (l6.length + 1):=by
    intro l8 s h8 hs hw
    have hr : room s_Stmt.i1.bytes l2.length [s].length = true:=room_of (by
     have : s_Stmt.i1.bytes = 168:=rfl
     rw [this]; simp only [List.length_singleton]; omega)
    obtain ⟨out,rest,k1,k2,k3,k4⟩:=ih l8 (by omega) d a0 (l2 ++ [s]) hd (by simp; omega) a1 h1
    refine ⟨s :: out,rest,Ev.of_eq (g:=fun n=>hand_stmts_L0 n a0 a1 (3 - d : Nat) l8 (l2 ++ [s])) (fun n=>by unfold handK; rw [hr]; rfl) (by simpa using k1),⟨hs,k2⟩,by omega,?_⟩
    rw [wtl]; omega
   have nest : ∀ (l : List Act) (b : Int),l.length ≤ m → b ≤ 100 → ∀ d',d = d' + 1 → ∃ out rest,Ev (fun n=>hand_stmts n l b (3 - d' : Nat)) (out,rest) ∧ okSl d' out ∧ rest.length ≤ l.length ∧ wtl out + cw d' * rest.length ≤ cw d' * l.length:=by
    intro l b hl' hb d' hd'
    obtain ⟨out,rest,k1,k2,k3,k4⟩:=ih l hl' d' l [] (by omega) (by simp) b hb
    exact ⟨out,rest,Ev.step (Ev.of_eq (fun n=>by simp only [hand_stmts]) k1),k2,k3,k4⟩
   have hcw : 10 ≤ cw d:=by unfold cw; have:=Nat.one_le_two_pow (n:=d); omega
   have hL : List.length (x :: l6) = l6.length + 1:=rfl
   rw [hL]
   obtain ⟨⟨ek,en,ew,eo⟩,hes,oes,zes⟩:=short_ev x
   obtain ⟨wA,hwA,hwA2⟩:=plain_ev x.A
   obtain ⟨wB,hwB,hwB2⟩:=plain_ev x.B
   obtain ⟨rc,wc,hrc,hwc,hwc2,_,_⟩:=two_ev x.A k_c k_d
   obtain ⟨rl,wl,hrl,hwl,hwl2,_,_⟩:=two_ev x.A k_l k_k
   obtain ⟨rA,_,hrA,_,_,rA0,rA1⟩:=two_ev x.A k_l k_k
   obtain ⟨rN,_,hrN,_,_,rN0,rN1⟩:=two_ev x.N k_l k_k
   have z0 : szE eN ≤ 7:=by simp [eN,szE,szEl]
   have q0:=Int.emod_nonneg x.What (show (24 : Int) ≠ 0 by omega)
   have q1:=Int.emod_lt_of_pos x.What (show (0 : Int) < 24 by omega)
   generalize x.What % 24 = r at e5 q0 q1
   have leaf : ∀ s : Stmt,okH s → s.Body = [] → s.Else = [] → szE s.E ≤ 7 → ∃ out rest,Ev (fun n=>handK n a0 a1 (3 - d : Nat) l2 l6 s) (l2 ++ out,rest) ∧ okSl d out ∧ rest.length ≤ l6.length + 1 ∧ wtl out + cw d * rest.length ≤ cw d * (l6.length + 1):=by
    intro s h1 h2 h3 h4
    obtain ⟨k,w,v,m,e,b,l,at_⟩:=s
    simp only at h2 h3 h4
    subst h2 h3
    exact more l6 _ (Nat.le_refl _) ⟨h1,fun _=>⟨rfl,rfl⟩,h4,trivial,trivial⟩ (by simp only [wt,wtl,Nat.mul_add]; omega)
   by_cases h9 : r < 9
   ·obtain ⟨out,rest,k1,k2,k3,k4⟩:=leaf ⟨1,wA,b0,0,⟨ek,en,ew,eo⟩,[],[],c0⟩ (.assign wA ⟨ek,en,ew,eo⟩ hwA2 oes) rfl rfl zes
    refine ⟨out,rest,Ev.step (Ev.of_eq (g:=fun n=>(hand_short n x).bind fun e=>handK n a0 a1 (3 - d : Nat) l2 l6 ⟨1,wA,b0,0,⟨e.Kind,e.N,e.Name,e.Of⟩,[],[],c0⟩) (fun n=>?_) (Ev.bind hes k1)),k2,k3,k4⟩
    simp only [hand_stmts_L0,jn,e1,e2,cond_true,cond_false,e3,e4,e5,Option.bind_some,decide_eq_true h9,hwA]
    rfl
   have f9:=decide_eq_false h9
   by_cases h11 : r < 11
   ·obtain ⟨out,rest,k1,k2,k3,k4⟩:=leaf ⟨2,k_m,b0,0,eN,[],[],c0⟩ (.lock) rfl rfl z0
    refine ⟨out,rest,Ev.step (Ev.of_eq (g:=fun n=>handK n a0 a1 (3 - d : Nat) l2 l6 ⟨2,k_m,b0,0,eN,[],[],c0⟩) (fun n=>?_) k1),k2,k3,k4⟩
    simp only [hand_stmts_L0,jn,e1,e2,cond_true,cond_false,e3,e4,e5,Option.bind_some,decide_eq_true h11,f9]
    rfl
   have f11:=decide_eq_false h11
   by_cases h13 : r < 13
   ·obtain ⟨out,rest,k1,k2,k3,k4⟩:=leaf ⟨3,k_m,b0,0,eN,[],[],c0⟩ (.unlock) rfl rfl z0
    refine ⟨out,rest,Ev.step (Ev.of_eq (g:=fun n=>handK n a0 a1 (3 - d : Nat) l2 l6 ⟨3,k_m,b0,0,eN,[],[],c0⟩) (fun n=>?_) k1),k2,k3,k4⟩
    simp only [hand_stmts_L0,jn,e1,e2,cond_true,cond_false,e3,e4,e5,Option.bind_some,decide_eq_true h13,f9,f11]
    rfl
   have f13:=decide_eq_false h13
   by_cases h15 : r < 15
   ·obtain ⟨out,rest,k1,k2,k3,k4⟩:=leaf ⟨4,wc,b0,0,⟨ek,en,ew,eo⟩,[],[],c0⟩ (.send wc ⟨ek,en,ew,eo⟩ hwc2 oes) rfl rfl zes
    refine ⟨out,rest,Ev.step (Ev.of_eq (g:=fun n=>(hand_short n x).bind fun e=>handK n a0 a1 (3 - d : Nat) l2 l6 ⟨4,wc,b0,0,⟨e.Kind,e.N,e.Name,e.Of⟩,[],[],c0⟩) (fun n=>?_) (Ev.bind hes k1)),k2,k3,k4⟩
    simp only [hand_stmts_L0,jn,e1,e2,cond_true,cond_false,e3,e4,e5,Option.bind_some,decide_eq_true h15,f9,f11,f13,hrc,hwc]
    rfl
   have f15:=decide_eq_false h15
   by_cases h17 : r < 17
   ·obtain ⟨out,rest,k1,k2,k3,k4⟩:=leaf ⟨5,wc,wB,0,eN,[],[],c0⟩ (.recv wc wB hwc2 hwB2) rfl rfl z0
    refine ⟨out,rest,Ev.step (Ev.of_eq (g:=fun n=>handK n a0 a1 (3 - d : Nat) l2 l6 ⟨5,wc,wB,0,eN,[],[],c0⟩) (fun n=>?_) k1),k2,k3,k4⟩
    simp only [hand_stmts_L0,jn,e1,e2,cond_true,cond_false,e3,e4,e5,Option.bind_some,decide_eq_true h17,f9,f11,f13,f15,hrc,hwc,hwB]
    rfl
   have f17:=decide_eq_false h17
   by_cases h18 : r < 18
   ·obtain ⟨out,rest,k1,k2,k3,k4⟩:=leaf ⟨6,b0,b0,0,⟨ek,en,ew,eo⟩,[],[],c0⟩ (.print ⟨ek,en,ew,eo⟩ oes) rfl rfl zes
    refine ⟨out,rest,Ev.step (Ev.of_eq (g:=fun n=>(hand_short n x).bind fun e=>handK n a0 a1 (3 - d : Nat) l2 l6 ⟨6,b0,b0,0,⟨e.Kind,e.N,e.Name,e.Of⟩,[],[],c0⟩) (fun n=>?_) (Ev.bind hes k1)),k2,k3,k4⟩
    simp only [hand_stmts_L0,jn,e1,e2,cond_true,cond_false,e3,e4,e5,Option.bind_some,decide_eq_true h18,f9,f11,f13,f15,f17]
    rfl
   have f18:=decide_eq_false h18
   have goto_ : ∃ out rest,Ev (fun n=>handK n a0 a1 (3 - d : Nat) l2 l6 ⟨9,wl,b0,0,eN,[],[],c0⟩) (l2 ++ out,rest) ∧ okSl d out ∧ rest.length ≤ l6.length + 1 ∧ wtl out + cw d * rest.length ≤ cw d * (l6.length + 1):=leaf _ (.goto wl hwl2) rfl rfl z0
   by_cases h22 : 21 ≤ r
   ·have f20 : decide (r < 20) = false:=decide_eq_false (by omega)
    have f21 : decide (r < 21) = false:=decide_eq_false (by omega)
    by_cases h23 : r < 22
    ·obtain ⟨out,rest,k1,k2,k3,k4⟩:=goto_
     refine ⟨out,rest,Ev.step (Ev.of_eq (g:=fun n=>_) (fun n=>?_) k1),k2,k3,k4⟩
     simp only [hand_stmts_L0,jn,e1,e2,cond_true,cond_false,e3,e4,e5,Option.bind_some,f20,f21,decide_eq_true h23,f9,f11,f13,f15,f17,f18,hrl,hwl]
     rfl
    have f22:=decide_eq_false h23
    by_cases h24 : r < 23
    ·obtain ⟨out,rest,k1,k2,k3,k4⟩:=leaf ⟨10,wl,b0,0,eN,[],[],c0⟩ (.label wl hwl2) rfl rfl z0
     refine ⟨out,rest,Ev.step (Ev.of_eq (g:=fun n=>_) (fun n=>?_) k1),k2,k3,k4⟩
     simp only [hand_stmts_L0,jn,e1,e2,cond_true,cond_false,e3,e4,e5,Option.bind_some,f20,f21,f22,decide_eq_true h24,f9,f11,f13,f15,f17,f18,hrl,hwl]
     rfl
    ·obtain ⟨out,rest,k1,k2,k3,k4⟩:=leaf ⟨1,k_t,b0,0,⟨ek,en,ew,eo⟩,[],[],c0⟩ (.assign k_t ⟨ek,en,ew,eo⟩ (by simp) oes) rfl rfl zes
     refine ⟨out,rest,Ev.step (Ev.of_eq (g:=fun n=>(hand_short n x).bind fun e=>handK n a0 a1 (3 - d : Nat) l2 l6 ⟨1,k_t,b0,0,⟨e.Kind,e.N,e.Name,e.Of⟩,[],[],c0⟩) (fun n=>?_) (Ev.bind hes k1)),k2,k3,k4⟩
     simp only [hand_stmts_L0,jn,e1,e2,cond_true,cond_false,e3,e4,e5,Option.bind_some,f20,f21,f22,decide_eq_false h24,f9,f11,f13,f15,f17,f18]
     rfl
   have g22 : decide (r < 22) = true:=decide_eq_true (by omega)
   have g21 : decide (r < 21) = true:=decide_eq_true (by omega)
   rcases Nat.eq_zero_or_pos d with hd0 | hd0
   ·
    have fa : decide (((3 - d : Nat) : Int) < 3) = false:=decide_eq_false (by omega)
    obtain ⟨out,rest,k1,k2,k3,k4⟩:=goto_
    refine ⟨out,rest,Ev.step (Ev.of_eq (g:=fun n=>_) (fun n=>?_) k1),k2,k3,k4⟩
    cases h20 : decide (r < 20) <;> simp only [hand_stmts_L0,jn,e1,e2,cond_true,cond_false,e3,e4,e5,Option.bind_some,h20,g21,g22,fa,f9,f11,f13,f15,f17,f18,hrl,hwl] <;> rfl
   obtain ⟨d',rfl⟩ : ∃ d',d = d' + 1:=⟨d - 1,by omega⟩
   have fa : decide (((3 - (d' + 1) : Nat) : Int) < 3) = true:=decide_eq_true (by omega)
   have hw1 : wr (((3 - (d' + 1) : Nat) : Int) + 1) = ((3 - d' : Nat) : Int):=by rw [wr_of (by omega)]; omega
   have hA1 : wr (1 + rA) ≤ 100:=by rw [wr_of (by omega)]; omega
   have hN1 : wr (1 + rN) ≤ 100:=by rw [wr_of (by omega)]; omega
   have hcc : cw (d' + 1) = 2 * cw d':=by unfold cw; rw [Nat.pow_succ]; omega
   obtain ⟨b,lb,b1,b2,b3,b4⟩:=nest l6 (wr (1 + rA)) (by omega) hA1 d' rfl
   by_cases h20 : r < 20
   ·have f20:=decide_eq_true h20
    cases hB : (x.B.tmod 3 == 0)
    ·obtain ⟨out,rest,k1,k2,k3,k4⟩:=more lb ⟨7,b0,b0,0,⟨ek,en,ew,eo⟩,b,[],c0⟩ b3 ⟨.cond ⟨ek,en,ew,eo⟩ b [] oes,fun h=>by omega,zes,b2,trivial⟩ (by
      have : cw (d' + 1) * lb.length = 2 * (cw d' * lb.length):=by rw [hcc,Nat.mul_assoc]
      have : cw (d' + 1) * l6.length = 2 * (cw d' * l6.length):=by rw [hcc,Nat.mul_assoc]
      simp only [wt,wtl,Nat.mul_add]; omega)
     refine ⟨out,rest,Ev.step (Ev.of_eq (g:=fun n=>(hand_short n x).bind fun e=>(hand_stmts n l6 (wr (1 + rA)) (3 - d' : Nat)).bind fun r36=>handK n a0 a1 (3 - (d' + 1) : Nat) l2 r36.2 ⟨7,b0,b0,0,⟨e.Kind,e.N,e.Name,e.Of⟩,r36.1,[],c0⟩) (fun n=>?_) (Ev.bind hes (Ev.bind b1 k1))),k2,k3,k4⟩
     simp only [hand_stmts_L0,jn,e1,e2,cond_true,cond_false,e3,e4,e5,Option.bind_some,f20,fa,hrA,hw1,hB,f9,f11,f13,f15,f17,f18]
     rfl
    ·obtain ⟨l,ll,l1',l2',l3',l4'⟩:=nest lb (wr (1 + rN)) (by omega) hN1 d' rfl
     obtain ⟨out,rest,k1,k2,k3,k4⟩:=more ll ⟨7,b0,b0,0,⟨ek,en,ew,eo⟩,b,l,c0⟩ (by omega) ⟨.cond ⟨ek,en,ew,eo⟩ b l oes,fun h=>by omega,zes,b2,l2'⟩ (by
      have : cw (d' + 1) * ll.length = 2 * (cw d' * ll.length):=by rw [hcc,Nat.mul_assoc]
      have : cw (d' + 1) * l6.length = 2 * (cw d' * l6.length):=by rw [hcc,Nat.mul_assoc]
      simp only [wt,Nat.mul_add]; omega)
     refine ⟨out,rest,Ev.step (Ev.of_eq (g:=fun n=>(hand_short n x).bind fun e=>(hand_stmts n l6 (wr (1 + rA)) (3 - d' : Nat)).bind fun r36=>(hand_stmts n r36.2 (wr (1 + rN)) (3 - d' : Nat)).bind fun r38=>handK n a0 a1 (3 - (d' + 1) : Nat) l2 r38.2 ⟨7,b0,b0,0,⟨e.Kind,e.N,e.Name,e.Of⟩,r36.1,r38.1,c0⟩) (fun n=>?_) (Ev.bind hes (Ev.bind b1 (Ev.bind l1' k1)))),k2,k3,k4⟩
     simp only [hand_stmts_L0,jn,e1,e2,cond_true,cond_false,e3,e4,e5,Option.bind_some,f20,fa,hrA,hrN,hw1,hB,f9,f11,f13,f15,f17,f18]
     rfl
   ·have f20:=decide_eq_false h20
    have p3 : ∀ n,hand_Pick n x.N 3 = some (x.N % 3):=fun n=>pick_eq n _ 3 (by omega) (by omega)
    obtain ⟨out,rest,k1,k2,k3,k4⟩:=more lb ⟨8,b0,b0,x.N % 3,eN,b,[],c0⟩ b3 ⟨.rep _ b (Int.emod_nonneg _ (by omega)) (by have:=Int.emod_lt_of_pos x.N (show (0 : Int) < 3 by omega); omega),fun h=>by omega,z0,b2,trivial⟩ (by
      have : cw (d' + 1) * lb.length = 2 * (cw d' * lb.length):=by rw [hcc,Nat.mul_assoc]
      have : cw (d' + 1) * l6.length = 2 * (cw d' * l6.length):=by rw [hcc,Nat.mul_assoc]
      simp only [wt,wtl,Nat.mul_add]; omega)
    refine ⟨out,rest,Ev.step (Ev.of_eq (g:=fun n=>(hand_stmts n l6 (wr (1 + rA)) (3 - d' : Nat)).bind fun r43=>handK n a0 a1 (3 - (d' + 1) : Nat) l2 r43.2 ⟨8,b0,b0,x.N % 3,eN,r43.1,[],c0⟩) (fun n=>?_) (Ev.bind b1 k1)),k2,k3,k4⟩
    simp only [hand_stmts_L0,jn,e1,e2,cond_true,cond_false,e3,e4,e5,Option.bind_some,f20,g21,fa,hrA,hw1,p3,f9,f11,f13,f15,f17,f18]
    rfl
theorem stmts_ev (l : List Act) (hl : l.length ≤ 16) (most : Int) (h : most ≤ 100) : ∃ out rest,Ev (fun n=>hand_stmts n l most 1) (out,rest) ∧ okSl 2 out ∧ wtl out ≤ 640:=by
 obtain ⟨out,rest,k1,k2,k3,k4⟩:=stmts_L0 0 (by omega) 16 l hl 2 l [] (by omega) (by simp) most h
 refine ⟨out,rest,Ev.step (Ev.of_eq (g:=fun n=>_) (fun n=>?_) k1),k2,?_⟩
 ·simp only [hand_stmts]; rfl
 ·have : cw 2 = 40:=rfl
  rw [this] at k4; omega
def okDecls (D : List Decl) : Prop:=∃ k0 k1 r,((k0 = 1 ∧ k1 = 1) ∨ (k0 = 2 ∧ k1 = 1) ∨ (k0 = 1 ∧ k1 = 2) ∨ (k0 = 3 ∧ k1 = 1)) ∧ 0 ≤ r ∧ r ≤ 2 ∧
 D = [⟨k0,k_x,0,c0⟩,⟨k1,k_y,0,c0⟩,⟨2,k_z,0,c0⟩,⟨3,k_a,0,c0⟩,⟨4,k_t,0,c0⟩,⟨5,k_m,0,c0⟩,⟨6,k_c,r,c0⟩,⟨6,k_d,0,c0⟩]
theorem decls_ev (how : Int) : ∃ D,(∀ n,hand_Decls n how = some D) ∧ okDecls D:=by
 have p1 : ∀ n,hand_Pick n how 3 = some (how % 3):=fun n=>pick_eq n _ 3 (by omega) (by omega)
 have p2 : ∀ n,hand_Pick n (wr (how.tdiv 3)) 7 = some (wr (how.tdiv 3) % 7):=fun n=>pick_eq n _ 7 (by omega) (by omega)
 have r0:=Int.emod_nonneg how (show (3 : Int) ≠ 0 by omega)
 have r1:=Int.emod_lt_of_pos how (show (0 : Int) < 3 by omega)
 generalize how % 3 = r at *
 generalize wr (how.tdiv 3) % 7 = q at *
 by_cases h4 : q = 4
 ·refine ⟨[⟨2,k_x,0,c0⟩,⟨1,k_y,0,c0⟩,⟨2,k_z,0,c0⟩,⟨3,k_a,0,c0⟩,⟨4,k_t,0,c0⟩,⟨5,k_m,0,c0⟩,⟨6,k_c,r,c0⟩,⟨6,k_d,0,c0⟩],fun n=>?_,2,1,r,by simp,r0,by omega,rfl⟩
  subst h4; unfold hand_Decls; rw [p1,p2]; rfl
 by_cases h5 : q = 5
 ·refine ⟨[⟨1,k_x,0,c0⟩,⟨2,k_y,0,c0⟩,⟨2,k_z,0,c0⟩,⟨3,k_a,0,c0⟩,⟨4,k_t,0,c0⟩,⟨5,k_m,0,c0⟩,⟨6,k_c,r,c0⟩,⟨6,k_d,0,c0⟩],fun n=>?_,1,2,r,by simp,r0,by omega,rfl⟩
  subst h5; unfold hand_Decls; rw [p1,p2]; rfl
 by_cases h6 : q = 6
 ·refine ⟨[⟨3,k_x,0,c0⟩,⟨1,k_y,0,c0⟩,⟨2,k_z,0,c0⟩,⟨3,k_a,0,c0⟩,⟨4,k_t,0,c0⟩,⟨5,k_m,0,c0⟩,⟨6,k_c,r,c0⟩,⟨6,k_d,0,c0⟩],fun n=>?_,3,1,r,by simp,r0,by omega,rfl⟩
  subst h6; unfold hand_Decls; rw [p1,p2]; rfl
 ·refine ⟨[⟨1,k_x,0,c0⟩,⟨1,k_y,0,c0⟩,⟨2,k_z,0,c0⟩,⟨3,k_a,0,c0⟩,⟨4,k_t,0,c0⟩,⟨5,k_m,0,c0⟩,⟨6,k_c,r,c0⟩,⟨6,k_d,0,c0⟩],fun n=>?_,1,1,r,by simp,r0,by omega,rfl⟩
  have b4 : (q == 4) = false:=by simpa using h4
  have b5 : (q == 5) = false:=by simpa using h5
  have b6 : (q == 6) = false:=by simpa using h6
  simp only [hand_Decls,p1,p2,Option.bind_some,jn,b4,b5,b6,cond_false]
theorem acts_ev (l : List Act) : ∃ l',(∀ n,hand_acts n l = some l') ∧ l'.length ≤ 16:=by
 by_cases h : 16 < l.length
 ·have s:=sub_of (l:=l) (a:=0) (b:=16) (by omega) (by omega)
  refine ⟨_,fun n=>?_,show ((l.drop 0).take (16 - 0)).length ≤ 16 by simp; omega⟩
  have hd : decide (ln l > 16) = true:=decide_eq_true (by show (l.length : Int) > 16; omega)
  have s' : sub l 0 16 = some ((l.drop 0).take (16 - 0)):=s
  simp only [hand_acts,hd,cond_true,s',Option.bind_some]
 ·refine ⟨l,fun n=>?_,by omega⟩
  have hd : decide (ln l > 16) = false:=decide_eq_false (by show ¬ (l.length : Int) > 16; omega)
  simp only [hand_acts,hd,cond_false]
def okTs (ts : List (List Stmt)) : Prop:=∀ t ∈ ts,okSl 2 t ∧ wtl t ≤ 640
theorem prog_ev (how : Int) (a b c : List Act) (most : Int) (hm : most ≤ 100) :
  ∃ D ts,Ev (fun n=>hand_Prog n how a b c most) ⟨D,ts⟩ ∧ okDecls D ∧ okTs ts ∧ (ts.length = 2 ∨ ts.length = 3):=by
 obtain ⟨D,hD,oD⟩:=decls_ev how
 obtain ⟨a',ha,la⟩:=acts_ev a
 obtain ⟨b',hb,lb⟩:=acts_ev b
 obtain ⟨c',hc,lc⟩:=acts_ev c
 obtain ⟨ta,xa,ea,oa,wa⟩:=stmts_ev a' la most hm
 obtain ⟨tb,xb,eb,ob,wb⟩:=stmts_ev b' lb most hm
 obtain ⟨tc,xc,ec,oc,wc⟩:=stmts_ev c' lc most hm
 have i0 : idx [a,b,c] 0 = some a:=rfl
 have i1 : idx [a,b,c] 1 = some b:=rfl
 have i2 : idx [a,b,c] 2 = some c:=rfl
 have w1 : wr (0 + 1) = 1:=rfl
 have w2 : wr (1 + 1) = 2:=rfl
 have w3 : wr (2 + 1) = 3:=rfl
 have g0 : ∀ t : List Stmt,room s_LStmt.i1.bytes ([] : List (List Stmt)).length [t].length = true:=fun t=>rfl
 have g1 : ∀ t u : List Stmt,room s_LStmt.i1.bytes (([] : List (List Stmt)) ++ [t]).length [u].length = true:=fun t u=>rfl
 have g2 : ∀ t u v : List Stmt,room s_LStmt.i1.bytes (([] : List (List Stmt)) ++ [t] ++ [u]).length [v].length = true:=fun t u v=>rfl
 have bt : ∀ x y z : List Stmt,∀ {Q : List Stmt → Prop},Q x → Q y → Q z → ∀ t ∈ [x,y,z],Q t:=by
  intro x y z Q h1 h2 h3 t ht
  simp only [List.mem_cons,List.not_mem_nil,or_false] at ht
  rcases ht with rfl | rfl | rfl <;> assumption
 cases hx : (ln c == 0) || decide (most > 4) with
 | true =>
  refine ⟨D,[ta,tb],?_,oD,fun t ht=>?_,.inl rfl⟩
  ·refine Ev.of_eq (g:=fun n=>hand_Prog_L0 n how a b c most D (fun l2=>some (Prog.mk D l2)) [] 0) (fun n=>by simp only [hand_Prog,hD,jn,Option.bind_some]) ?_
   refine Ev.step (Ev.of_eq (g:=fun n=>(hand_stmts n a' most 1).bind fun r10=>hand_Prog_L0 n how a b c most D (fun l2=>some (Prog.mk D l2)) ([] ++ [r10.1]) 1) (fun n=>?_) (Ev.bind ea ?_))
   ·simp only [hand_Prog_L0,i0,ha,jn,Option.bind_some,g0,cond_true,w1]; rfl
   refine Ev.step (Ev.of_eq (g:=fun n=>(hand_stmts n b' most 1).bind fun r10=>hand_Prog_L0 n how a b c most D (fun l2=>some (Prog.mk D l2)) ([] ++ [ta] ++ [r10.1]) 2) (fun n=>?_) (Ev.bind eb ?_))
   ·simp only [hand_Prog_L0,i1,hb,jn,Option.bind_some,g1,cond_true,w2]; rfl
   refine Ev.step (Ev.of_eq (g:=fun n=>some ⟨D,[ta,tb]⟩) (fun n=>?_) (Ev.ret _))
   simp only [hand_Prog_L0,i2,jn,Option.bind_some]
   cases h0 : (ln c == 0)
   ·rw [h0,Bool.false_or] at hx
    rw [hx]; rfl
   ·rfl
  ·simp only [List.mem_cons,List.not_mem_nil,or_false] at ht
   rcases ht with rfl | rfl
   ·exact ⟨oa,wa⟩
   ·exact ⟨ob,wb⟩
 | false =>
  refine ⟨D,[ta,tb,tc],?_,oD,bt ta tb tc ⟨oa,wa⟩ ⟨ob,wb⟩ ⟨oc,wc⟩,.inr rfl⟩
  simp only [Bool.or_eq_false_iff] at hx
  refine Ev.of_eq (g:=fun n=>hand_Prog_L0 n how a b c most D (fun l2=>some (Prog.mk D l2)) [] 0) (fun n=>by simp only [hand_Prog,hD,jn,Option.bind_some]) ?_
  refine Ev.step (Ev.of_eq (g:=fun n=>(hand_stmts n a' most 1).bind fun r10=>hand_Prog_L0 n how a b c most D (fun l2=>some (Prog.mk D l2)) ([] ++ [r10.1]) 1) (fun n=>?_) (Ev.bind ea ?_))
  ·simp only [hand_Prog_L0,i0,ha,jn,Option.bind_some,g0,cond_true,w1]; rfl
  refine Ev.step (Ev.of_eq (g:=fun n=>(hand_stmts n b' most 1).bind fun r10=>hand_Prog_L0 n how a b c most D (fun l2=>some (Prog.mk D l2)) ([] ++ [ta] ++ [r10.1]) 2) (fun n=>?_) (Ev.bind eb ?_))
  ·simp only [hand_Prog_L0,i1,hb,jn,Option.bind_some,g1,cond_true,w2]; rfl
  refine Ev.step (Ev.of_eq (g:=fun n=>(hand_stmts n c' most 1).bind fun r10=>hand_Prog_L0 n how a b c most D (fun l2=>some (Prog.mk D l2)) ([] ++ [ta] ++ [tb] ++ [r10.1]) 3) (fun n=>?_) (Ev.bind ec ?_))
  ·simp only [hand_Prog_L0,i2,hc,jn,Option.bind_some,g2,cond_true,w3,hx.1,hx.2]; rfl
  refine Ev.step (Ev.of_eq (g:=fun n=>some ⟨D,[ta,tb,tc]⟩) (fun n=>?_) (Ev.ret _))
  rfl
end Go.Su.Ytkmcnajbhclimaa
namespace Go.Su.Ytkmcnajbhclimaa
open Go.Mx Go.Proofs
set_option linter.unusedVariables false
set_option linter.unusedSimpArgs false
theorem expr_ind {P : Expr → Prop} {Q : List Expr → Prop} (h1 : ∀ k n w l,Q l → P ⟨k,n,w,l⟩) (h2 : Q []) (h3 : ∀ e r,P e → Q r → Q (e :: r)) : (∀ e,P e) ∧ ∀ l,Q l :=
 ⟨fun e=>Expr.rec (motive_1:=P) (motive_2:=Q) h1 h2 h3 e,fun l=>Expr.rec_1 (motive_1:=P) (motive_2:=Q) h1 h2 h3 l⟩
theorem stmt_ind {P : Stmt → Prop} {Q : List Stmt → Prop} (h1 : ∀ k w v m e b l a,Q b → Q l → P ⟨k,w,v,m,e,b,l,a⟩) (h2 : Q []) (h3 : ∀ s r,P s → Q r → Q (s :: r)) : (∀ s,P s) ∧ ∀ l,Q l :=
 ⟨fun e=>Stmt.rec (motive_1:=P) (motive_2:=Q) h1 h2 h3 e,fun l=>Stmt.rec_1 (motive_1:=P) (motive_2:=Q) h1 h2 h3 l⟩
section loops
variable {α : Type}
theorem ix_lt (pre : List α) (x : α) (r : List α) : decide ((pre.length : Int) < ln (pre ++ x :: r)) = true:=decide_eq_true (by show (pre.length : Int) < ((pre ++ x :: r).length : Int); simp; omega)
theorem ix_ge (l : List α) : decide ((l.length : Int) < ln l) = false:=decide_eq_false (by show ¬ (l.length : Int) < l.length; omega)
theorem ix_get (pre : List α) (x : α) (r : List α) : idx (pre ++ x :: r) (pre.length : Int) = some x:=idx_of (by omega) (by simp)
theorem ix_wr (pre : List α) (x : α) (h : pre.length + 1 ≤ 9223372036854775807) : wr ((pre.length : Int) + 1) = ((pre ++ [x]).length : Int):=by rw [wr_of (by omega)]; simp
theorem ix_cons (pre : List α) (x : α) (r : List α) : pre ++ x :: r = (pre ++ [x]) ++ r:=by simp
end loops
end Go.Su.Ytkmcnajbhclimaa
namespace Go.Su.Ytkmcnajbhclimaa
open Go.Mx Go.Proofs
set_option linter.unusedVariables false
set_option linter.unusedSimpArgs false
set_option maxHeartbeats 4000000
mutual
def szS : Stmt → Nat
 | ⟨_,_,_,_,e,b,l,_⟩=>1 + szE e + (szSl b + szSl l)
def szSl : List Stmt → Nat
 | []=>0
 | s :: r=>szS s + szSl r
end
mutual
def fl1 : Stmt → List Stmt
 | ⟨k,w,v,m,e,b,l,a⟩=>⟨k,w,v,m,e,b,l,a⟩ :: (flat b ++ flat l)
def flat : List Stmt → List Stmt
 | []=>[]
 | s :: r=>fl1 s ++ flat r
end
theorem len_El : ∀ l : List Expr,l.length ≤ szEl l
 | []=>by simp
 | e :: r=>by
  have:=len_El r
  cases e
  rw [List.length_cons,szEl,szE]; omega
theorem len_Sl : ∀ l : List Stmt,l.length ≤ szSl l
 | []=>by simp
 | e :: r=>by
  have:=len_Sl r
  cases e
  rw [List.length_cons,szSl,szS]; omega
theorem flat_len : (∀ s,(fl1 s).length ≤ szS s) ∧ ∀ l,(flat l).length ≤ szSl l:=by
 refine stmt_ind ?_ (by simp [flat]) ?_
 ·intro k w v m e b l a h1 h2
  rw [fl1,szS]; simp only [List.length_cons,List.length_append]; omega
 ·intro s r h1 h2
  rw [flat,szSl,List.length_append]; omega
theorem fl1_eq (s : Stmt) : fl1 s = s :: (flat s.Body ++ flat s.Else):=by cases s; rw [fl1]
theorem szS_wt : (∀ s d,okS d s → szS s ≤ wt s) ∧ ∀ l d,okSl d l → szSl l ≤ wtl l:=by
 refine stmt_ind ?_ (by simp [szSl,wtl]) ?_
 ·intro k w v m e b l a hb hl d h
  rw [okS] at h
  obtain ⟨h1,_,h3,h4,h5⟩:=h
  have hb:=hb _ h4
  have hl:=hl _ h5
  rw [szS,wt]; omega
 ·intro s r h1 h2 d h
  rw [okSl] at h
  have:=h1 _ h.1
  have:=h2 _ h.2
  rw [szSl,wtl]; omega
theorem set_self {α : Type} (pre : List α) (x : α) (r : List α) : (pre ++ x :: r).set (pre.length : Int).toNat x = pre ++ x :: r:=by
 simp [List.set_append]
theorem sub_all {α : Type} (l : List α) : sub l 0 (ln l) = some l:=by
 have:=sub_of (l:=l) (a:=0) (b:=l.length) (by omega) (by omega)
 simpa using this
theorem copyE_ev : (∀ e,szE e ≤ 1000000 → Ev (fun n=>tree_copyExpr n e) e) ∧
  ∀ l,∀ (e : Expr) (r1 : List Expr) (pre : List Expr),szEl l ≤ 1000000 → (pre ++ l).length ≤ 1000000 → Ev (fun n=>tree_copyExpr_L0 n e r1 (pre ++ l) (pre ++ l) b0 pre.length) ⟨e.Kind,e.N,e.Name,pre ++ l⟩:=by
 refine expr_ind ?_ ?_ ?_
 ·intro k m w l ih h
  rw [szE] at h
  have hl:=len_El l
  have hr : room s_Expr.i1.bytes ([] : List Expr).length l.length = true:=room_of (by
   have : s_Expr.i1.bytes = 56:=rfl
   rw [this]; simp only [List.length_nil]; omega)
  refine Ev.step (Ev.of_eq (g:=fun n=>tree_copyExpr_L0 n ⟨k,m,w,l⟩ l l l b0 0) (fun n=>?_) ?_)
  ·simp only [tree_copyExpr,Clone_Expr,Clip_Expr_o,hr,cond_true,Option.bind_some]; rfl
  ·exact ih ⟨k,m,w,l⟩ l [] (by omega) (by simp; omega)
 ·intro e r1 pre h1 h2
  refine Ev.step (Ev.of_eq (g:=fun n=>some ⟨e.Kind,e.N,e.Name,pre ++ []⟩) (fun n=>?_) (Ev.ret _))
  simp only [tree_copyExpr_L0,List.append_nil,ix_ge,cond_false]
 ·intro x r ihx ihr e r1 pre h1 h2
  rw [szEl] at h1
  have hp : pre.length ≤ 1000000:=by simp at h2; omega
  refine Ev.step (Ev.of_eq (g:=fun n=>(tree_copyExpr n x).bind fun r8=>tree_copyExpr_L0 n e r1 (pre ++ x :: r) ((pre ++ x :: r).set (pre.length : Int).toNat r8) b0 ((pre ++ [x]).length)) (fun n=>?_) (Ev.bind (ihx (by omega)) ?_))
  ·simp only [tree_copyExpr_L0,ix_lt,cond_true,ix_get,Option.bind_some]
   rw [ix_wr pre x (by omega)]
  ·rw [set_self,ix_cons]
   exact ihr e r1 (pre ++ [x]) (by omega) (by rw [← ix_cons]; exact h2)
theorem copyS_ev : (∀ s,szS s ≤ 1000000 → Ev (fun n=>tree_copyStmt n s) s) ∧
  ∀ l,∀ (r0 r1 : List Stmt) (pre : List Stmt),szSl l ≤ 1000000 → (pre ++ l).length ≤ 1000000 → Ev (fun n=>tree_copyBlock_L0 n r0 r1 (pre ++ l) (pre ++ l) pre.length) (pre ++ l):=by
 have blk : ∀ l : List Stmt,szSl l ≤ 1000000 → (∀ (r0 r1 : List Stmt) (pre : List Stmt),szSl l ≤ 1000000 → (pre ++ l).length ≤ 1000000 → Ev (fun n=>tree_copyBlock_L0 n r0 r1 (pre ++ l) (pre ++ l) pre.length) (pre ++ l)) → Ev (fun n=>tree_copyBlock n l) l:=by
  intro l h ih
  have hl:=len_Sl l
  have hr : room s_Stmt.i1.bytes ([] : List Stmt).length l.length = true:=room_of (by
   have : s_Stmt.i1.bytes = 168:=rfl
   rw [this]; simp only [List.length_nil]; omega)
  refine Ev.step (Ev.of_eq (g:=fun n=>tree_copyBlock_L0 n l l l l 0) (fun n=>?_) ?_)
  ·simp only [tree_copyBlock,Clone_Stmt,Clip_Stmt_o,hr,cond_true,Option.bind_some]; rfl
  ·exact ih l l [] h (by simp; omega)
 refine stmt_ind ?_ ?_ ?_
 ·intro k w v m e b l a ihb ihl h
  rw [szS] at h
  refine Ev.step (Ev.of_eq (g:=fun n=>(tree_copyExpr n e).bind fun r1=>(tree_copyBlock n b).bind fun r2=>(tree_copyBlock n l).bind fun r3=>some ⟨k,w,v,m,r1,r2,r3,a⟩) (fun n=>?_)
   (Ev.bind (copyE_ev.1 e (by omega)) (Ev.bind (blk b (by omega) ihb) (Ev.bind (blk l (by omega) ihl) (Ev.ret _)))))
  simp only [tree_copyStmt]
 ·intro r0 r1 pre h1 h2
  refine Ev.step (Ev.of_eq (g:=fun n=>some (pre ++ [])) (fun n=>?_) (Ev.ret _))
  simp only [tree_copyBlock_L0,List.append_nil,ix_ge,cond_false]
 ·intro x r ihx ihr r0 r1 pre h1 h2
  rw [szSl] at h1
  have hp : pre.length ≤ 1000000:=by simp at h2; omega
  refine Ev.step (Ev.of_eq (g:=fun n=>(tree_copyStmt n x).bind fun r8=>tree_copyBlock_L0 n r0 r1 (pre ++ x :: r) ((pre ++ x :: r).set (pre.length : Int).toNat r8) ((pre ++ [x]).length)) (fun n=>?_) (Ev.bind (ihx (by omega)) ?_))
  ·simp only [tree_copyBlock_L0,ix_lt,cond_true,ix_get,Option.bind_some]
   rw [ix_wr pre x (by omega)]
  ·rw [set_self,ix_cons]
   exact ihr r0 r1 (pre ++ [x]) (by omega) (by rw [← ix_cons]; exact h2)
theorem room32 (a : Nat) (h : a ≤ 2000000) (x : Stmt) : room s_Stmt.i1.bytes a [x].length = true:=room_of (by
 have : s_Stmt.i1.bytes = 168:=rfl
 rw [this]; simp only [List.length_singleton]; omega)
def flats : List (List Stmt) → List Stmt
 | []=>[]
 | t :: r=>flat t ++ flats r
def szT : List (List Stmt) → Nat
 | []=>0
 | t :: r=>1 + szSl t + szT r
theorem len_T : ∀ ts : List (List Stmt),ts.length ≤ szT ts ∧ (flats ts).length ≤ szT ts
 | []=>by simp [flats]
 | t :: r=>by
  have:=len_T r
  have:=flat_len.2 t
  rw [flats,szT,List.length_append,List.length_cons]; omega
theorem sz_flat : (∀ s,∀ x ∈ fl1 s,szS x ≤ szS s) ∧ ∀ l,∀ x ∈ flat l,szS x ≤ szSl l:=by
 refine stmt_ind ?_ (by simp [flat]) ?_
 ·intro k w v m e b l a h1 h2 x hx
  rw [fl1,List.mem_cons,List.mem_append] at hx
  rcases hx with rfl | hx | hx
  ·exact Nat.le_refl _
  ·have:=h1 x hx; rw [szS]; omega
  ·have:=h2 x hx; rw [szS]; omega
 ·intro s r h1 h2 x hx
  rw [flat,List.mem_append] at hx
  rw [szSl]
  rcases hx with hx | hx
  ·have:=h1 x hx; omega
  ·have:=h2 x hx; omega
theorem sz_flats : ∀ ts : List (List Stmt),∀ x ∈ flats ts,szS x ≤ szT ts
 | [],x,hx=>by simp [flats] at hx
 | t :: r,x,hx=>by
  rw [flats,List.mem_append] at hx
  rw [szT]
  rcases hx with hx | hx
  ·have:=sz_flat.2 t x hx; omega
  ·have:=sz_flats r x hx; omega
end Go.Su.Ytkmcnajbhclimaa
namespace Go.Su.Ytkmcnajbhclimaa
open Go.Mx Go.Proofs
set_option linter.unusedVariables false
set_option linter.unusedSimpArgs false
set_option maxHeartbeats 4000000
theorem listed_ev : (∀ s : Stmt,(∀ out : List Stmt,out.length + szSl s.Body ≤ 1000000 → Ev (fun n=>tree_listed_o n out s.Body) (out ++ flat s.Body)) ∧ ∀ out : List Stmt,out.length + szSl s.Else ≤ 1000000 → Ev (fun n=>tree_listed_o n out s.Else) (out ++ flat s.Else)) ∧
  ∀ l,∀ (a0 out : List Stmt) (pre : List Stmt),out.length + szSl l ≤ 1000000 → (pre ++ l).length ≤ 1000000 → Ev (fun n=>tree_listed_o_L0 n a0 (pre ++ l) out pre.length) (out ++ flat l):=by
 refine stmt_ind ?_ ?_ ?_
 ·intro k w v m e b l a ihb ihl
  have lb:=len_Sl b
  have ll:=len_Sl l
  exact ⟨fun out h=>Ev.step (Ev.of_eq (fun n=>by simp only [tree_listed_o]; rfl) (ihb out out [] (by omega) (by simp only [List.nil_append]; simp only at h; omega))),
   fun out h=>Ev.step (Ev.of_eq (fun n=>by simp only [tree_listed_o]; rfl) (ihl out out [] (by omega) (by simp only [List.nil_append]; simp only at h; omega)))⟩
 ·intro a0 out pre h1 h2
  refine Ev.step (Ev.of_eq (g:=fun n=>some out) (fun n=>?_) (by simpa [flat] using Ev.ret out))
  simp only [tree_listed_o_L0,List.append_nil,ix_ge,cond_false]
 ·intro x r ihx ihr a0 out pre h1 h2
  rw [szSl] at h1
  have hp : pre.length ≤ 1000000:=by simp at h2; omega
  have f1:=flat_len.1 x
  rw [fl1_eq] at f1
  simp only [List.length_cons,List.length_append] at f1
  have hx : 1 + (flat x.Body).length + szSl x.Else ≤ szS x ∧ 1 + szSl x.Body ≤ szS x:=by
   cases x with
   | mk k w v m e b l a =>
    have:=flat_len.2 b
    simp only [szS]
    omega
  have hbe : Ev (fun n=>tree_listed_o n (out ++ [x]) x.Body) (out ++ [x] ++ flat x.Body) ∧ Ev (fun n=>tree_listed_o n (out ++ [x] ++ flat x.Body) x.Else) (out ++ [x] ++ flat x.Body ++ flat x.Else):=by
   exact ⟨ihx.1 _ (by simp only [List.length_append,List.length_singleton]; omega),ihx.2 _ (by simp only [List.length_append,List.length_singleton]; omega)⟩
  refine Ev.step (Ev.of_eq (g:=fun n=>(tree_listed_o n (out ++ [x]) x.Body).bind fun r5=>(tree_listed_o n r5 x.Else).bind fun r6=>tree_listed_o_L0 n a0 ((pre ++ [x]) ++ r) r6 ((pre ++ [x]).length)) (fun n=>?_) (Ev.bind hbe.1 (Ev.bind hbe.2 ?_)))
  ·simp only [tree_listed_o_L0,ix_lt,cond_true,ix_get,Option.bind_some,room32 out.length (by omega) x]
   rw [ix_wr pre x (by omega),← ix_cons]
  ·have:=ihr a0 (out ++ [x] ++ flat x.Body ++ flat x.Else) (pre ++ [x]) (by simp only [List.length_append,List.length_singleton]; omega) (by rw [← ix_cons]; exact h2)
   rw [flat,fl1_eq]
   simpa using this
theorem listedo_ev (l out : List Stmt) (h : out.length + szSl l ≤ 1000000) : Ev (fun n=>tree_listed_o n out l) (out ++ flat l):=by
 have:=len_Sl l
 exact Ev.step (Ev.of_eq (fun n=>by simp only [tree_listed_o]; rfl) (listed_ev.2 l out out [] h (by simp only [List.nil_append]; omega)))
theorem List_L1 (D : List Decl) (ts : List (List Stmt)) (i2 : Int) (all : List Stmt) (ha : all.length ≤ 1000000) (hz : ∀ s ∈ all,szS s ≤ 1000000) : ∀ l pre,all = pre ++ l → Ev (fun n=>tree_List_L1 n ⟨D,ts⟩ all i2 all pre.length) all
 | [],pre,e=>by
  subst e
  refine Ev.step (Ev.of_eq (g:=fun n=>some (pre ++ [])) (fun n=>?_) (Ev.ret _))
  simp only [tree_List_L1,List.append_nil,ix_ge,cond_false,Clip_Stmt,sub_all,Option.bind_some]
 | x :: r,pre,e=>by
  have hp : pre.length ≤ 1000000:=by rw [e] at ha; simp at ha; omega
  refine Ev.step (Ev.of_eq (g:=fun n=>(tree_copyStmt n x).bind fun r8=>tree_List_L1 n ⟨D,ts⟩ all i2 (all.set (pre.length : Int).toNat r8) ((pre ++ [x]).length)) (fun n=>?_) (Ev.bind (copyS_ev.1 x (hz x (by rw [e]; simp))) ?_))
  ·have l1 : decide ((pre.length : Int) < ln all) = true:=by rw [e]; exact ix_lt _ _ _
   have l2 : idx all (pre.length : Int) = some x:=by rw [e]; exact ix_get _ _ _
   simp only [tree_List_L1,l1,l2,cond_true,Option.bind_some]
   rw [ix_wr pre x (by omega)]
  ·have : all.set (pre.length : Int).toNat x = all:=by rw [e]; exact set_self _ _ _
   rw [this]
   exact List_L1 D ts i2 all ha hz r (pre ++ [x]) (by rw [e]; exact ix_cons _ _ _)
theorem List_L0 (D : List Decl) (ts : List (List Stmt)) (hz : szT ts ≤ 1000000) : ∀ (l pre : List (List Stmt)) (acc : List Stmt),ts = pre ++ l → acc ++ flats l = flats ts → acc.length + szT l ≤ 1000000 → Ev (fun n=>tree_List_L0 n ⟨D,ts⟩ acc pre.length) (flats ts)
 | [],pre,acc,e,ea,h=>by
  have hts:=len_T ts
  rw [flats,List.append_nil] at ea
  subst ea
  rw [List.append_nil] at e
  refine Ev.step (Ev.of_eq (g:=fun n=>tree_List_L1 n ⟨D,ts⟩ (flats ts) pre.length (flats ts) 0) (fun n=>?_) ?_)
  ·have l1 : decide ((pre.length : Int) < ln ts) = false:=by rw [e]; exact ix_ge _
   simp only [tree_List_L0,l1,cond_false]
  ·exact List_L1 D ts pre.length (flats ts) (by omega) (fun s hs=>by have:=sz_flats ts s hs; omega) (flats ts) [] rfl
 | t :: r,pre,acc,e,ea,h=>by
  have hts:=len_T ts
  rw [szT] at h
  have hp : pre.length + 1 ≤ ts.length:=by rw [e]; simp
  refine Ev.step (Ev.of_eq (g:=fun n=>(tree_listed_o n acc t).bind fun r4=>tree_List_L0 n ⟨D,ts⟩ r4 ((pre ++ [t]).length)) (fun n=>?_) (Ev.bind (listedo_ev t acc (by omega)) ?_))
  ·have l1 : decide ((pre.length : Int) < ln ts) = true:=by rw [e]; exact ix_lt _ _ _
   have l2 : idx ts (pre.length : Int) = some t:=by rw [e]; exact ix_get _ _ _
   simp only [tree_List_L0,l1,l2,cond_true,Option.bind_some]
   rw [ix_wr pre t (by omega)]
  ·have:=flat_len.2 t
   exact List_L0 D ts hz r (pre ++ [t]) (acc ++ flat t) (by rw [e]; exact ix_cons _ _ _) (by rw [← ea,flats]; simp) (by rw [List.length_append]; omega)
theorem List_ev (D : List Decl) (ts : List (List Stmt)) (hz : szT ts ≤ 1000000) : Ev (fun n=>tree_List n ⟨D,ts⟩) (flats ts) :=
 Ev.of_eq (fun n=>by simp only [tree_List]; rfl) (List_L0 D ts hz ts [] [] rfl rfl (by simpa using hz))
end Go.Su.Ytkmcnajbhclimaa
namespace Go.Su.Ytkmcnajbhclimaa
open Go.Mx Go.Proofs
set_option linter.unusedVariables false
set_option linter.unusedSimpArgs false
theorem roomC (a b : Nat) (h : a + b ≤ 4000000) : room s_int.i1.bytes a b = true:=room_of (by
 have : s_int.i1.bytes = 8:=rfl
 rw [this]; omega)
end Go.Su.Ytkmcnajbhclimaa
namespace Go.Su.Ytkmcnajbhclimaa
open Go.Mx Go.Proofs
set_option linter.unusedVariables false
set_option linter.unusedSimpArgs false
set_option maxHeartbeats 4000000
mutual
def nmE : Expr → List ByteArray
 | ⟨k,_,w,l⟩=>(if k = 2 then [w] else []) ++ nmEl l
def nmEl : List Expr → List ByteArray
 | []=>[]
 | e :: r=>nmE e ++ nmEl r
end
theorem nm_len : (∀ e,(nmE e).length ≤ szE e) ∧ ∀ l,(nmEl l).length ≤ szEl l:=by
 refine expr_ind ?_ (by simp [nmEl]) ?_
 ·intro k n w l h
  rw [nmE,szE]; split <;> simp <;> omega
 ·intro e r h1 h2
  rw [nmEl,szEl,List.length_append]; omega
def tch (s : Stmt) : List ByteArray:=(if s.Kind = 1 ∨ s.Kind = 4 ∨ s.Kind = 6 ∨ s.Kind = 7 then nmE s.E else []) ++ (if s.Kind = 1 then [s.Name] else if s.Kind = 5 then [s.Other] else [])
theorem roomW (a b : Nat) (h : a + b ≤ 3000000) : room s_string.i1.bytes a b = true:=room_of (by
 have : s_string.i1.bytes = 16:=rfl
 rw [this]; omega)
theorem tnames_ev : (∀ e,szE e ≤ 1000000 → Ev (fun n=>tree_Names n e) (nmE e)) ∧
  ∀ l,∀ (k m : Int) (w : ByteArray) (l1 : List ByteArray) (pre : List Expr) (acc : List ByteArray),(pre ++ l).length ≤ 1000000 → acc.length + szEl l ≤ 1000000 → Ev (fun n=>tree_Names_L0 n ⟨k,m,w,pre ++ l⟩ l1 acc pre.length) (acc ++ nmEl l):=by
 refine expr_ind ?_ ?_ ?_
 ·intro k m w l ih h
  rw [szE] at h
  have hl:=len_El l
  by_cases h2 : k = 2
  ·have b : (k == 2) = true:=by simpa using h2
   refine Ev.step (Ev.of_eq (g:=fun n=>tree_Names_L0 n ⟨k,m,w,[] ++ l⟩ ([] ++ [w]) ([] ++ [w]) 0) (fun n=>?_) ?_)
   ·simp only [tree_Names,jn,b,cond_true,roomW ([] : List ByteArray).length [w].length (by simp)]; rfl
   ·have:=ih k m w ([] ++ [w]) [] ([] ++ [w]) (by simp; omega) (by simp; omega)
    rw [nmE,if_pos h2]; exact this
  ·have b : (k == 2) = false:=by simpa using h2
   refine Ev.step (Ev.of_eq (g:=fun n=>tree_Names_L0 n ⟨k,m,w,[] ++ l⟩ [] [] 0) (fun n=>?_) ?_)
   ·simp only [tree_Names,jn,b,cond_false]; rfl
   ·have:=ih k m w [] [] [] (by simp; omega) (by simp; omega)
    rw [nmE,if_neg h2]; exact this
 ·intro k m w l1 pre acc hl h1
  refine Ev.step (Ev.of_eq (g:=fun n=>some acc) (fun n=>?_) (by simpa [nmEl] using Ev.ret acc))
  simp only [tree_Names_L0,List.append_nil,ix_ge,cond_false,Clip_string,sub_all,Option.bind_some]
 ·intro e r ihe ihr k m w l1 pre acc hl h1
  rw [szEl] at h1
  have hn:=nm_len.1 e
  have hp : pre.length ≤ 1000000:=by simp at hl; omega
  refine Ev.step (Ev.of_eq (g:=fun n=>(tree_Names n e).bind fun r7=>bif room s_string.i1.bytes acc.length r7.length then tree_Names_L0 n ⟨k,m,w,(pre ++ [e]) ++ r⟩ l1 (acc ++ r7) ((pre ++ [e]).length) else none) (fun n=>?_) (Ev.bind (ihe (by omega)) ?_))
  ·simp only [tree_Names_L0,ix_lt,cond_true,ix_get,Option.bind_some]
   rw [ix_wr pre e (by omega),← ix_cons]
  ·simp only [roomW acc.length (nmE e).length (by omega),cond_true]
   have:=ihr k m w l1 (pre ++ [e]) (acc ++ nmE e) (by rw [← ix_cons]; exact hl) (by rw [List.length_append]; omega)
   rw [nmEl]; simpa using this
theorem ttouch_ev (s : Stmt) (h : szE s.E ≤ 1000000) : Ev (fun n=>tree_Touches n s) (tch s):=by
 have hn:=nm_len.1 s.E
 have r1 : ∀ w : ByteArray,room s_string.i1.bytes (nmE s.E).length [w].length = true:=fun w=>roomW _ _ (by simp; omega)
 have r2 : ∀ w : ByteArray,room s_string.i1.bytes ([] : List ByteArray).length [w].length = true:=fun w=>roomW _ _ (by simp)
 by_cases k1 : s.Kind = 1
 ·have e : tch s = nmE s.E ++ [s.Name]:=by simp [tch,k1]
  rw [e]
  refine Ev.of_eq (g:=fun n=>(tree_Names n s.E).bind fun r5=>bif room s_string.i1.bytes r5.length [s.Name].length then some (r5 ++ [s.Name]) else none) (fun n=>?_) (Ev.bind (tnames_ev.1 s.E h) ?_)
  ·simp only [tree_Touches,jn,k1,Clip_string,sub_all,Option.bind_some]; rfl
  ·simp only [r1,cond_true]; exact Ev.ret _
 have b1 : (s.Kind == 1) = false:=by simpa using k1
 by_cases k2 : s.Kind = 4 ∨ s.Kind = 6 ∨ s.Kind = 7
 ·have e : tch s = nmE s.E:=by
   have : s.Kind ≠ 5:=by omega
   simp [tch,k1,k2,this]
  rw [e]
  have b5 : (s.Kind == 5) = false:=by simp; omega
  refine Ev.of_eq (g:=fun n=>(tree_Names n s.E).bind fun r5=>some r5) (fun n=>?_) (Ev.bind (tnames_ev.1 s.E h) (Ev.ret _))
  simp only [tree_Touches,jn,b1,b5,cond_false,Clip_string,sub_all,Option.bind_some]
  rcases k2 with k | k | k <;> rw [k] <;> rfl
 ·have b4 : (s.Kind == 4) = false:=by simp; omega
  have b6 : (s.Kind == 6) = false:=by simp; omega
  have b7 : (s.Kind == 7) = false:=by simp; omega
  by_cases k5 : s.Kind = 5
  ·have e : tch s = [] ++ [s.Other]:=by simp [tch,k5]
   rw [e]
   refine Ev.of_eq (g:=fun n=>some ([] ++ [s.Other])) (fun n=>?_) (Ev.ret _)
   have b5 : (s.Kind == 5) = true:=by simpa using k5
   simp only [tree_Touches,jn,b1,b4,b5,b6,b7,cond_false,cond_true,Clip_string,sub_all,Option.bind_some,r2]
  ·have e : tch s = []:=by
    have : ¬ (s.Kind = 1 ∨ s.Kind = 4 ∨ s.Kind = 6 ∨ s.Kind = 7):=by omega
    unfold tch; rw [if_neg this,if_neg k1,if_neg k5]; rfl
   rw [e]
   have b5 : (s.Kind == 5) = false:=by simpa using k5
   refine Ev.of_eq (g:=fun n=>some []) (fun n=>?_) (Ev.ret _)
   simp only [tree_Touches,jn,b1,b4,b5,b6,b7,cond_false,Clip_string,sub_all,Option.bind_some]
end Go.Su.Ytkmcnajbhclimaa
namespace Go.Su.Ytkmcnajbhclimaa
open Go.Mx Go.Proofs
set_option linter.unusedVariables false
set_option linter.unusedSimpArgs false
set_option maxHeartbeats 4000000
theorem bytesEq_comm (a b : ByteArray) : bytesEq a b = bytesEq b a:=by
 rw [bytesEq_eq,bytesEq_eq]; exact BEq.comm
def has (l : List ByteArray) (w : ByteArray) : Bool:=l.any fun x=>bytesEq x w
def hit (s : Stmt) (l : List ByteArray) : Bool:=(tch s).any (has l)
theorem Index_L0 (w : ByteArray) : ∀ (l pre : List ByteArray),(pre ++ l).length ≤ 4000000 → ∃ r,Ev (fun n=>Index_string_L0 n (pre ++ l) w pre.length) r ∧ decide (r ≥ 0) = has l w
 | [],pre,h=>⟨-1,Ev.step (Ev.of_eq (g:=fun n=>some (-1)) (fun n=>by simp only [Index_string_L0,List.append_nil,ix_ge,cond_false]) (Ev.ret _)),rfl⟩
 | x :: r,pre,h=>by
  have hp : pre.length + 1 ≤ 4000000:=by simp at h; omega
  cases hb : bytesEq w x
  ·obtain ⟨q,h1,h2⟩:=Index_L0 w r (pre ++ [x]) (by rw [← ix_cons]; exact h)
   refine ⟨q,Ev.step (Ev.of_eq (fun n=>?_) h1),by rw [h2]; simp [has,bytesEq_comm x w,hb]⟩
   simp only [Index_string_L0,ix_lt,ix_get,cond_true,Option.bind_some,hb,cond_false]
   rw [ix_wr pre x (by omega),← ix_cons]
  ·refine ⟨(pre.length : Int),Ev.step (Ev.of_eq (g:=fun n=>some (pre.length : Int)) (fun n=>?_) (Ev.ret _)),by simp [has,bytesEq_comm x w,hb]⟩
   simp only [Index_string_L0,ix_lt,ix_get,cond_true,Option.bind_some,hb]
theorem contains_ev (l : List ByteArray) (w : ByteArray) (h : l.length ≤ 4000000) : Ev (fun n=>cost_touches_1 n w l) (has l w):=by
 obtain ⟨r,h1,h2⟩:=Index_L0 w l [] (by simpa using h)
 have e : Ev (fun n=>Index_string n l w) r:=Ev.of_eq (fun n=>by simp only [Index_string]; rfl) h1
 exact Ev.of_eq (g:=fun n=>((Index_string n l w).bind fun r1=>some (decide (r1 ≥ 0))).bind fun r1=>some r1) (fun n=>by simp only [cost_touches_1,Contains_string]) (Ev.bind (Ev.bind e (Ev.ret _)) (by rw [h2]; exact Ev.ret _))
theorem IndexF_L0 (a1 : List ByteArray) (ha : a1.length ≤ 4000000) : ∀ (l pre : List ByteArray),(pre ++ l).length ≤ 4000000 → ∃ r,Ev (fun n=>IndexFunc_string_fcost_touches_1_L0 n (pre ++ l) a1 pre.length) r ∧ decide (r ≥ 0) = l.any (has a1)
 | [],pre,h=>⟨-1,Ev.step (Ev.of_eq (g:=fun n=>some (-1)) (fun n=>by simp only [IndexFunc_string_fcost_touches_1_L0,List.append_nil,ix_ge,cond_false]) (Ev.ret _)),rfl⟩
 | x :: r,pre,h=>by
  have hp : pre.length + 1 ≤ 4000000:=by simp at h; omega
  have hc:=contains_ev a1 x ha
  have base : ∀ n,IndexFunc_string_fcost_touches_1_L0 (n + 1) (pre ++ x :: r) a1 pre.length = (cost_touches_1 n x a1).bind fun r3=>bif r3 then some (pre.length : Int) else IndexFunc_string_fcost_touches_1_L0 n ((pre ++ [x]) ++ r) a1 ((pre ++ [x]).length):=by
   intro n
   simp only [IndexFunc_string_fcost_touches_1_L0,ix_lt,ix_get,cond_true,Option.bind_some]
   rw [ix_wr pre x (by omega),← ix_cons]
  cases hb : has a1 x
  ·obtain ⟨q,h1,h2⟩:=IndexF_L0 a1 ha r (pre ++ [x]) (by rw [← ix_cons]; exact h)
   exact ⟨q,Ev.step (Ev.of_eq base (Ev.bind hc (Ev.no hb h1))),by rw [h2]; simp [hb]⟩
  ·exact ⟨(pre.length : Int),Ev.step (Ev.of_eq base (Ev.bind hc (Ev.yes hb (Ev.ret _)))),by simp [hb]⟩
theorem tch_len (s : Stmt) : (tch s).length ≤ szE s.E + 1:=by
 have:=nm_len.1 s.E
 unfold tch
 rw [List.length_append]
 split <;> split <;> (try split) <;> simp <;> omega
theorem touches_ev (s : Stmt) (l : List ByteArray) (h : szE s.E ≤ 1000000) (hl : l.length ≤ 4000000) : Ev (fun n=>cost_touches n s l) (hit s l):=by
 have:=tch_len s
 obtain ⟨r,h1,h2⟩:=IndexF_L0 l hl (tch s) [] (by simp; omega)
 have e : Ev (fun n=>IndexFunc_string_fcost_touches_1 n (tch s) l) r:=Ev.of_eq (fun n=>by simp only [IndexFunc_string_fcost_touches_1]; rfl) h1
 refine Ev.of_eq (g:=fun n=>(tree_Touches n s).bind fun r1=>((IndexFunc_string_fcost_touches_1 n r1 l).bind fun r1=>some (decide (r1 ≥ 0))).bind fun r2=>some r2) (fun n=>by simp only [cost_touches,ContainsFunc_string_fcost_touches_1]) (Ev.bind (ttouch_ev s h) (Ev.bind (Ev.bind e (Ev.ret _)) ?_))
 rw [h2]; exact Ev.ret _
def wn (s : Stmt) : Nat:=(flat s.Body).length + (flat s.Else).length
theorem fl1_len (s : Stmt) : (fl1 s).length = wn s + 1:=by rw [fl1_eq]; simp [wn]
theorem size_ev (s : Stmt) (h : szS s ≤ 900000) : Ev (fun n=>cost_size n s) ((wn s + 1 : Nat) : Int):=by
 have e:=List_ev [] [[s]] (by simp only [szT,szSl]; omega)
 have hf : ln (flats [[s]]) = ((wn s + 1 : Nat) : Int):=by
  show ((flats [[s]]).length : Int) = _
  simp only [flats,flat,List.append_nil,fl1_len]
 exact Ev.of_eq (g:=fun n=>(tree_List n (Prog.mk [] [[s]])).bind fun r1=>some (ln r1)) (fun n=>by simp only [cost_size]) (Ev.bind e (by rw [hf]; exact Ev.ret _))
end Go.Su.Ytkmcnajbhclimaa
namespace Go.Su.Ytkmcnajbhclimaa
open Go.Mx Go.Proofs
set_option linter.unusedVariables false
set_option linter.unusedSimpArgs false
set_option maxHeartbeats 4000000
def wrp (r : List Stmt) (nm : List ByteArray) : Nat → Nat → List Nat
 | 0,_=>[]
 | m + 1,i=>match r[i]? with
  | none=>[]
  | some s=>bif hit s nm then i :: wrp r nm m (i + (wn s + 1)) else wrp r nm m (i + 1)
theorem wrp_L0 (p : Prog) (nm : List ByteArray) (hn : nm.length ≤ 4000000) (r1 : List Stmt) (hr : r1.length ≤ 900000) (hz : ∀ x ∈ r1,szS x ≤ 900000) : ∀ (m i : Nat) (acc : List Int),r1.length - i ≤ m → i ≤ 2000000 → acc.length + (r1.length - i) ≤ 1000000 →
  Ev (fun n=>cost_Wrapped_L0 n p nm r1 acc (i : Int)) (acc ++ (wrp r1 nm m i).map fun (k : Nat)=>(k : Int))
 | m,i,acc,h1,h2,h3=>by
  by_cases hi : i < r1.length
  ·match m,h1 with
   | 0,h1=>exact absurd h1 (by omega)
   | m + 1,h1 =>
    have d1 : decide ((i : Int) < ln r1) = true:=decide_eq_true (by show (i : Int) < (r1.length : Int); omega)
    have g1 : r1[i]? = some r1[i]:=List.getElem?_eq_getElem hi
    have i1 : idx r1 (i : Int) = some r1[i]:=idx_of (by omega) (by rw [Int.toNat_natCast]; exact g1)
    have hs:=hz _ (List.getElem_mem hi)
    have hE : szE r1[i].E ≤ 1000000:=by
     have : ∀ s : Stmt,szE s.E ≤ szS s:=by intro s; cases s; simp only [szS]; omega
     have:=this r1[i]; omega
    have hw:=flat_len.1 r1[i]
    rw [fl1_len] at hw
    have t1:=touches_ev r1[i] nm hE hn
    rw [wrp,g1]
    cases c : hit r1[i] nm
    ·have k1:=wrp_L0 p nm hn r1 hr hz m (i + 1) acc (by omega) (by omega) (by omega)
     have e3 : wr ((i : Int) + 1) = ((i + 1 : Nat) : Int):=by rw [wr_of (by omega)]; rfl
     refine Ev.step (Ev.of_eq (g:=fun n=>(cost_touches n r1[i] nm).bind fun r5=>bif r5 then (bif room s_int.i1.bytes acc.length [(i : Int)].length then (cost_size n r1[i]).bind fun r8=>cost_Wrapped_L0 n p nm r1 (acc ++ [(i : Int)]) (wr ((i : Int) + r8)) else none) else cost_Wrapped_L0 n p nm r1 acc ((i + 1 : Nat) : Int)) (fun n=>?_) (Ev.bind t1 (Ev.no c (by simpa [c] using k1))))
     simp only [cost_Wrapped_L0,d1,cond_true,i1,Option.bind_some,e3]
    ·have k1:=wrp_L0 p nm hn r1 hr hz m (i + (wn r1[i] + 1)) (acc ++ [(i : Int)]) (by omega) (by omega) (by simp; omega)
     have e3 : wr ((i : Int) + ((wn r1[i] + 1 : Nat) : Int)) = ((i + (wn r1[i] + 1) : Nat) : Int):=by rw [wr_of (by omega)]; omega
     have q1:=size_ev r1[i] (by omega)
     have rm : room s_int.i1.bytes acc.length [(i : Int)].length = true:=roomC _ _ (by simp; omega)
     refine Ev.step (Ev.of_eq (g:=fun n=>(cost_touches n r1[i] nm).bind fun r5=>bif r5 then (bif room s_int.i1.bytes acc.length [(i : Int)].length then (cost_size n r1[i]).bind fun r8=>cost_Wrapped_L0 n p nm r1 (acc ++ [(i : Int)]) (wr ((i : Int) + r8)) else none) else cost_Wrapped_L0 n p nm r1 acc (wr ((i : Int) + 1))) (fun n=>?_) (Ev.bind t1 (Ev.yes c (Ev.yes rm (Ev.bind q1 (by rw [e3]; simpa [c] using k1))))))
     simp only [cost_Wrapped_L0,d1,cond_true,i1,Option.bind_some]
  ·have d1 : decide ((i : Int) < ln r1) = false:=decide_eq_false (by show ¬ (i : Int) < (r1.length : Int); omega)
   have hc : ∀ n,Clip_int n acc = some acc:=fun n=>by simp only [Clip_int,sub_all,Option.bind_some]
   have g1 : r1[i]? = none:=List.getElem?_eq_none (by omega)
   have e : wrp r1 nm m i = []:=by cases m <;> simp [wrp,g1]
   rw [e]
   exact Ev.step (Ev.of_eq (g:=fun n=>some acc) (fun n=>by simp only [cost_Wrapped_L0,d1,cond_false,hc,Option.bind_some]) (by simpa using Ev.ret acc))
theorem wrp_ev (D : List Decl) (ts : List (List Stmt)) (nm : List ByteArray) (hn : nm.length ≤ 4000000) (hz : szT ts ≤ 100000) : Ev (fun n=>cost_Wrapped n ⟨D,ts⟩ nm) ((wrp (flats ts) nm (flats ts).length 0).map fun (k : Nat)=>(k : Int)):=by
 have l1:=len_T ts
 have k1:=wrp_L0 ⟨D,ts⟩ nm hn (flats ts) (by omega) (fun x hx=>by have:=sz_flats ts x hx; omega) (flats ts).length 0 [] (by omega) (by omega) (by simp; omega)
 exact Ev.of_eq (g:=fun n=>(tree_List n ⟨D,ts⟩).bind fun r1=>cost_Wrapped_L0 n ⟨D,ts⟩ nm r1 [] 0) (fun n=>by simp only [cost_Wrapped]) (Ev.bind (List_ev D ts (by omega)) k1)
theorem wrp_lo (r : List Stmt) (nm : List ByteArray) : ∀ (m i k : Nat),k ∈ wrp r nm m i → i ≤ k ∧ ∃ s,r[k]? = some s ∧ hit s nm = true
 | 0,i,k,h=>by simp [wrp] at h
 | m + 1,i,k,h=>by
  rw [wrp] at h
  cases g : r[i]? with
  | none=>rw [g] at h; simp at h
  | some s =>
   rw [g] at h
   cases c : hit s nm
   ·simp only [c,cond_false] at h
    have:=wrp_lo r nm m (i + 1) k h
    exact ⟨by omega,this.2⟩
   ·simp only [c,cond_true] at h
    rcases List.mem_cons.1 h with rfl | h
    ·exact ⟨Nat.le_refl _,s,g,c⟩
    ·have:=wrp_lo r nm m (i + (wn s + 1)) k h
     exact ⟨by omega,this.2⟩
end Go.Su.Ytkmcnajbhclimaa
