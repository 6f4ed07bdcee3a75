/-
  What Show prints of an expression is read as it was.
-/
import Derived.Test.YtfmgnboplbgniaaZwPlShow
import Derived.Test.YtfmgnboplbgniaaZwPlTreeL
namespace Go.Su.Ytfmgnboplbgniaa
open Go.Mx Go.Proofs
set_option linter.unusedVariables false
set_option linter.unusedSimpArgs false
set_option maxHeartbeats 4000000
theorem Ch0.congr {a b : ByteArray} {ts : List Key} (h : bl a = bl b) (hb : Ch0 b ts) : Ch0 a ts:=fun rest tr hr=>by rw [h]; exact hb rest tr hr
def dg (m : Int) : ByteArray:=⟨⟨[UInt8.ofNat (48 + m.toNat)]⟩⟩
theorem dg_b2s (m : Int) (h0 : 0 ≤ m) (h9 : m ≤ 9) : b2s [IntKind.u8.wrap (wr (48 + m))] = dg m:=by
 have : m = 0 ∨ m = 1 ∨ m = 2 ∨ m = 3 ∨ m = 4 ∨ m = 5 ∨ m = 6 ∨ m = 7 ∨ m = 8 ∨ m = 9:=by omega
 rcases this with rfl | rfl | rfl | rfl | rfl | rfl | rfl | rfl | rfl | rfl <;> rfl
theorem digitsT (k : Int) (h0 : 0 ≤ k) (h1 : k ≤ 9) : Ev (fun n=>ref1_Digits n k) (dg k) ∧ (dg k).size = 1 ∧ Ch (dg k) [(2,dg k,k)]:=by
 have d : decide (k < 10) = true:=decide_eq_true (by omega)
 refine ⟨Ev.step (Ev.of_eq (g:=fun n=>some (dg k)) (fun n=>by simp only [ref1_Digits,d,cond_true,dg_b2s k h0 h1]) (Ev.ret _)),rfl,fun rest tr hs hr=>?_⟩
 have:=scR_digit k.toNat (by omega) hs hr
 rw [Int.toNat_of_nonneg h0] at this
 exact this
theorem sg20 : Ch0 x_20 []:=fun rest tr h=>scR_blank 32 (.inl rfl) h
theorem sg0a : Ch0 x_0a []:=fun rest tr h=>scR_blank 10 (.inr (.inr rfl)) h
theorem sg09 : Ch0 x_09 []:=fun rest tr h=>scR_blank 9 (.inr (.inl rfl)) h
theorem sg28 : Ch0 x_28 [(3,x_28,0)]:=fun rest tr h=>scR_sign 40 rfl h
theorem sg29 : Ch0 x_29 [(3,x_29,0)]:=fun rest tr h=>scR_sign 41 rfl h
theorem sg2d : Ch0 x_2d [(3,x_2d,0)]:=fun rest tr h=>scR_sign 45 rfl h
theorem sg2b : Ch0 x_2b [(3,x_2b,0)]:=fun rest tr h=>scR_sign 43 rfl h
theorem sg2a : Ch0 x_2a [(3,x_2a,0)]:=fun rest tr h=>scR_sign 42 rfl h
theorem sg2f : Ch0 x_2f [(3,x_2f,0)]:=fun rest tr h=>scR_sign 47 rfl h
theorem sg25 : Ch0 x_25 [(3,x_25,0)]:=fun rest tr h=>scR_sign 37 rfl h
theorem sg3c : Ch0 x_3c [(3,x_3c,0)]:=fun rest tr h=>scR_sign 60 rfl h
theorem sg7d : Ch0 x_7d [(3,x_7d,0)]:=fun rest tr h=>scR_sign 125 rfl h
theorem sgeq : Ch0 x_3d3d [(3,x_3d3d,0)]:=fun rest tr h=>scR_eqeq h
theorem sgas : Ch0 x_203d20 [(3,x_3d,0)]:=fun rest tr h=>scR_blank 32 (.inl rfl) (scR_eq (scR_blank 32 (.inl rfl) h))
theorem sgop : Ch0 x_207b0a [(3,x_7b,0)]:=fun rest tr h=>scR_blank 32 (.inl rfl) (scR_sign 123 rfl (scR_blank 10 (.inr (.inr rfl)) h))
theorem st20 : St x_20:=⟨32,[],rfl,rfl⟩
theorem st0a : St x_0a:=⟨10,[],rfl,rfl⟩
theorem st29 : St x_29:=⟨41,[],rfl,rfl⟩
theorem stas : St x_203d20:=⟨32,[61,32],rfl,rfl⟩
theorem stop_ : St x_207b0a:=⟨32,[123,10],rfl,rfl⟩
theorem kw_lock : Ch0 x_6c6f636b20 [(1,k_lock,0)]:=Ch0.congr (b:=k_lock ++ x_20) (by kernel_rfl) (Ch.app (Ch.word k_lock 108 [111,99,107] rfl (by decide)) sg20 st20)
theorem kw_unlock : Ch0 x_756e6c6f636b20 [(1,k_unlock,0)]:=Ch0.congr (b:=k_unlock ++ x_20) (by kernel_rfl) (Ch.app (Ch.word k_unlock 117 [110,108,111,99,107] rfl (by decide)) sg20 st20)
theorem kw_send : Ch0 x_73656e6420 [(1,k_send,0)]:=Ch0.congr (b:=k_send ++ x_20) (by kernel_rfl) (Ch.app (Ch.word k_send 115 [101,110,100] rfl (by decide)) sg20 st20)
theorem kw_recv : Ch0 x_7265637620 [(1,k_recv,0)]:=Ch0.congr (b:=k_recv ++ x_20) (by kernel_rfl) (Ch.app (Ch.word k_recv 114 [101,99,118] rfl (by decide)) sg20 st20)
theorem kw_print : Ch0 x_7072696e7420 [(1,k_print,0)]:=Ch0.congr (b:=k_print ++ x_20) (by kernel_rfl) (Ch.app (Ch.word k_print 112 [114,105,110,116] rfl (by decide)) sg20 st20)
theorem kw_goto : Ch0 x_676f746f20 [(1,k_goto,0)]:=Ch0.congr (b:=k_goto ++ x_20) (by kernel_rfl) (Ch.app (Ch.word k_goto 103 [111,116,111] rfl (by decide)) sg20 st20)
theorem kw_label : Ch0 x_6c6162656c20 [(1,k_label,0)]:=Ch0.congr (b:=k_label ++ x_20) (by kernel_rfl) (Ch.app (Ch.word k_label 108 [97,98,101,108] rfl (by decide)) sg20 st20)
theorem kw_if : Ch0 x_696620 [(1,k_if,0)]:=Ch0.congr (b:=k_if ++ x_20) (by kernel_rfl) (Ch.app (Ch.word k_if 105 [102] rfl (by decide)) sg20 st20)
theorem kw_repeat : Ch0 x_72657065617420 [(1,k_repeat,0)]:=Ch0.congr (b:=k_repeat ++ x_20) (by kernel_rfl) (Ch.app (Ch.word k_repeat 114 [101,112,101,97,116] rfl (by decide)) sg20 st20)
theorem kw_go : Ch0 x_676f207b0a [(1,k_go,0),(3,x_7b,0)]:=Ch0.congr (b:=k_go ++ x_207b0a) (by kernel_rfl) (Ch.app (Ch.word k_go 103 [111] rfl (by decide)) sgop stop_)
theorem kw_else : Ch0 x_20656c7365207b0a [(1,k_else,0),(3,x_7b,0)]:=Ch0.congr (b:=x_20 ++ (k_else ++ x_207b0a)) (by kernel_rfl) (Ch0.app sg20 (Ch.app (Ch.word k_else 101 [108,115,101] rfl (by decide)) sgop stop_))
theorem kw_end : Ch0 x_7d0a [(3,x_7d,0)]:=Ch0.congr (b:=x_7d ++ x_0a) (by kernel_rfl) (Ch0.app sg7d sg0a)
theorem nm5 : ∀ w ∈ [k_x,k_y,k_z,k_a,k_t],w.size = 1 ∧ Ch w [(1,w,0)]:=by
 intro w hw
 simp only [List.mem_cons,List.not_mem_nil,or_false] at hw
 rcases hw with rfl | rfl | rfl | rfl | rfl
 ·exact ⟨rfl,Ch.word k_x 120 [] rfl (by decide)⟩
 ·exact ⟨rfl,Ch.word k_y 121 [] rfl (by decide)⟩
 ·exact ⟨rfl,Ch.word k_z 122 [] rfl (by decide)⟩
 ·exact ⟨rfl,Ch.word k_a 97 [] rfl (by decide)⟩
 ·exact ⟨rfl,Ch.word k_t 116 [] rfl (by decide)⟩
theorem nm2 : ∀ w ∈ [k_c,k_d],w.size = 1 ∧ Ch w [(1,w,0)]:=by
 intro w hw
 simp only [List.mem_cons,List.not_mem_nil,or_false] at hw
 rcases hw with rfl | rfl
 ·exact ⟨rfl,Ch.word k_c 99 [] rfl (by decide)⟩
 ·exact ⟨rfl,Ch.word k_d 100 [] rfl (by decide)⟩
theorem nml : ∀ w ∈ [k_l,k_k],w.size = 1 ∧ Ch w [(1,w,0)]:=by
 intro w hw
 simp only [List.mem_cons,List.not_mem_nil,or_false] at hw
 rcases hw with rfl | rfl
 ·exact ⟨rfl,Ch.word k_l 108 [] rfl (by decide)⟩
 ·exact ⟨rfl,Ch.word k_k 107 [] rfl (by decide)⟩
theorem nmm : k_m.size = 1 ∧ Ch k_m [(1,k_m,0)]:=⟨rfl,Ch.word k_m 109 [] rfl (by decide)⟩
def lvl (k : Int) : Int:=bif (k == 9) || (k == 10) then 1 else bif (k == 4) || (k == 5) then 2 else bif (k == 6) || (k == 7) || (k == 8) then 3 else bif (k == 3) then 4 else bif (k == 1) || (k == 2) then 5 else 0
def sgn (k : Int) : ByteArray:=bif (k == 4) then x_2b else bif (k == 5) then x_2d else bif (k == 6) then x_2a else bif (k == 7) then x_2f else bif (k == 8) then x_25 else bif (k == 9) then x_3c else x_3d3d
def lft (k : Int) : Int:=bif (lvl k == 1) then 2 else lvl k
theorem sgnT (k : Int) (h1 : 4 ≤ k) (h2 : k ≤ 10) : (∀ n,ref1_sign n k = some (sgn k)) ∧ (sgn k).size ≤ 2 ∧ Ch0 (sgn k) [(3,sgn k,0)]:=by
 have : k = 4 ∨ k = 5 ∨ k = 6 ∨ k = 7 ∨ k = 8 ∨ k = 9 ∨ k = 10:=by omega
 rcases this with rfl | rfl | rfl | rfl | rfl | rfl | rfl
 ·exact ⟨fun n=>rfl,by decide,sg2b⟩
 ·exact ⟨fun n=>rfl,by decide,sg2d⟩
 ·exact ⟨fun n=>rfl,by decide,sg2a⟩
 ·exact ⟨fun n=>rfl,by decide,sg2f⟩
 ·exact ⟨fun n=>rfl,by decide,sg25⟩
 ·exact ⟨fun n=>rfl,by decide,sg3c⟩
 ·exact ⟨fun n=>rfl,by decide,sgeq⟩
theorem levelT (k : Int) (h1 : 1 ≤ k) (h2 : k ≤ 10) : (∀ n,ref1_level n k = some (lvl k)) ∧ (4 ≤ k → 1 ≤ lvl k ∧ lvl k ≤ 3) ∧ (k ≤ 2 → lvl k = 5) ∧ (k = 3 → lvl k = 4):=by
 have : k = 1 ∨ k = 2 ∨ k = 3 ∨ k = 4 ∨ k = 5 ∨ k = 6 ∨ k = 7 ∨ k = 8 ∨ k = 9 ∨ k = 10:=by omega
 rcases this with rfl | rfl | rfl | rfl | rfl | rfl | rfl | rfl | rfl | rfl <;> exact ⟨fun n=>rfl,by decide,by decide,by decide⟩
theorem okE_kind : ∀ (d : Nat) (e : Expr),okE d e → 1 ≤ e.Kind ∧ e.Kind ≤ 10
 | 0,_,h=>h.elim
 | d + 1,e,h=>by
  rcases h with ⟨h,_⟩ | ⟨h,_⟩ | ⟨h,_⟩ | ⟨h,h',_⟩ <;> omega
def tkS (low : Int) (e : Expr) (ts : List Key) : List Key:=bif decide (lvl e.Kind < low) then (3,x_28,0) :: (ts ++ [(3,x_29,0)]) else ts
def tkE : Nat → Expr → List Key
 | 0,_=>[]
 | d + 1,⟨k,m,w,l⟩=>bif (k == 1) then [(2,dg m,m)] else bif (k == 2) then [(1,w,0)] else match l with
  | [x]=>(3,x_2d,0) :: tkS 4 x (tkE d x)
  | [x,y]=>tkS (lft k) x (tkE d x) ++ ((3,sgn k,0) :: tkS (lvl k + 1) y (tkE d y))
  | _=>[]
theorem showT : ∀ (d : Nat) (e : Expr),okE d e → szE e ≤ 1000000 → (∃ w,Ev (fun n=>ref1_show n e) w ∧ Ch w (tkE d e) ∧ (w.size + 4 ≤ 4 * szE e ∨ (lvl e.Kind = 5 ∧ w.size ≤ 1))) ∧ ∀ low,low ≤ 5 → ∃ w,Ev (fun n=>ref1_side n e low) w ∧ Ch w (tkS low e (tkE d e)) ∧ w.size + 2 ≤ 4 * szE e:=by
 intro d
 induction d with
 | zero=>intro e h; exact h.elim
 | succ d ih =>
  intro e h hz
  have hk:=okE_kind _ e h
  have hsz : 1 ≤ szE e:=by cases e; rw [szE]; omega
  have hs : ∃ w,Ev (fun n=>ref1_show n e) w ∧ Ch w (tkE (d + 1) e) ∧ (w.size + 4 ≤ 4 * szE e ∨ (lvl e.Kind = 5 ∧ w.size ≤ 1)):=by
   obtain ⟨k,m,w,l⟩:=e
   obtain ⟨hlv,hlv2,hlv5,_⟩:=levelT k hk.1 hk.2
   rcases h with ⟨h1,h2,h3,h4,h5⟩ | ⟨h1,h2,h3,h5⟩ | ⟨h1,h2,h3,x,h5,h6⟩ | ⟨h1,h1',h2,h3,x,y,h5,h6,h7⟩ <;> simp only at h1 h2 h3 h5 <;> subst h5
   ·subst h1
    obtain ⟨k1,k2,k3⟩:=digitsT m h2 (by omega)
    refine ⟨dg m,Ev.step (Ev.of_eq (g:=fun n=>(ref1_Digits n m).bind fun r4=>some r4) (fun n=>?_) (Ev.bind k1 (Ev.ret _))),k3,.inr ⟨rfl,by omega⟩⟩
    simp only [ref1_show,hlv,Option.bind_some,jn,decide_eq_true (show m ≥ 0 from h2)]; rfl
   ·subst h1
    obtain ⟨z,c⟩:=nm5 w h3
    refine ⟨w,Ev.step (Ev.of_eq (g:=fun n=>some w) (fun n=>?_) (Ev.ret _)),c,.inr ⟨rfl,by omega⟩⟩
    simp only [ref1_show,hlv,Option.bind_some,jn]; rfl
   ·subst h1
    rw [szE,szEl,szEl] at hz ⊢
    obtain ⟨w',k1,kc,k2⟩:=(ih x h6 (by omega)).2 4 (by omega)
    have hr : sroom x_2d w' = true:=sroom_of (by have : x_2d.size = 1:=rfl; omega)
    refine ⟨x_2d ++ w',Ev.step (Ev.of_eq (g:=fun n=>(ref1_side n x 4).bind fun r8=>bif sroom x_2d r8 then some (x_2d ++ r8) else none) (fun n=>?_) (Ev.bind k1 ?_)),Ch0.app1 sg2d kc,.inl ?_⟩
    ·simp only [ref1_show,hlv,Option.bind_some,jn]; rfl
    ·simp only [hr,cond_true]; exact Ev.ret _
    ·rw [size_app]; have : x_2d.size = 1:=rfl; omega
   ·rw [szE,szEl,szEl,szEl] at hz ⊢
    obtain ⟨q1,q2⟩:=hlv2 h1
    have b1 : (k == 1) = false:=by simp; omega
    have b2 : (k == 2) = false:=by simp; omega
    have b3 : (k == 3) = false:=by simp; omega
    obtain ⟨wl,k1,kc,k2⟩:=(ih x h6 (by omega)).2 (lft k) (by unfold lft; cases (lvl k == 1) <;> simp <;> omega)
    obtain ⟨wr',l1,lc,l2⟩:=(ih y h7 (by omega)).2 (lvl k + 1) (by omega)
    obtain ⟨s1,s2,sc⟩:=sgnT k h1 h1'
    have z1 : x_20.size = 1:=rfl
    have r1 : sroom wl x_20 = true:=sroom_of (by omega)
    have r2 : sroom (wl ++ x_20) (sgn k) = true:=sroom_of (by rw [size_app]; omega)
    have r3 : sroom ((wl ++ x_20) ++ sgn k) x_20 = true:=sroom_of (by rw [size_app,size_app]; omega)
    have r4 : sroom (((wl ++ x_20) ++ sgn k) ++ x_20) wr' = true:=sroom_of (by rw [size_app,size_app,size_app]; omega)
    have i0 : idx [x,y] 0 = some x:=rfl
    have i1 : idx [x,y] 1 = some y:=rfl
    have l2' : (ln [x,y] == 2) = true:=rfl
    have hwr : wr (lvl k + 1) = lvl k + 1:=wr_of (by omega)
    refine ⟨(((wl ++ x_20) ++ sgn k) ++ x_20) ++ wr',Ev.step (Ev.of_eq (g:=fun n=>(ref1_side n x (lft k)).bind fun r15=>bif sroom r15 x_20 then bif sroom (r15 ++ x_20) (sgn k) then bif sroom ((r15 ++ x_20) ++ sgn k) x_20 then (ref1_side n y (lvl k + 1)).bind fun r21 =>
      bif sroom (((r15 ++ x_20) ++ sgn k) ++ x_20) r21 then some ((((r15 ++ x_20) ++ sgn k) ++ x_20) ++ r21) else none else none else none else none) (fun n=>?_) (Ev.bind k1 ?_)),?_,.inl ?_⟩
    ·have g1 : decide (lvl k ≥ 1) = true:=decide_eq_true q1
     have g2 : decide (lvl k ≤ 3) = true:=decide_eq_true q2
     unfold lft
     cases hc : (lvl k == 1) <;> simp only [ref1_show,hlv,Option.bind_some,jn,b1,b2,b3,cond_false,cond_true,g1,g2,l2',hc,i0,i1,s1,hwr]
    ·simp only [r1,r2,r3,cond_true]
     refine Ev.bind l1 ?_
     simp only [r4,cond_true]; exact Ev.ret _
    ·have e : tkE (d + 1) ⟨k,m,w,[x,y]⟩ = (((tkS (lft k) x (tkE d x) ++ []) ++ [(3,sgn k,0)]) ++ []) ++ tkS (lvl k + 1) y (tkE d y):=by
      rw [tkE,b1,b2,cond_false,cond_false]; simp
     rw [e]
     exact Ch0.app1 (Ch0.app (Ch0.app (Ch.app kc sg20 st20) sc) sg20) lc
    ·simp only [size_app]; omega
  refine ⟨hs,fun low hlow=>?_⟩
  obtain ⟨w,k1,kc,k2⟩:=hs
  obtain ⟨hlv,_⟩:=levelT e.Kind hk.1 hk.2
  by_cases hc : lvl e.Kind < low
  ·have z1 : x_28.size = 1:=rfl
   have z2 : x_29.size = 1:=rfl
   have r1 : sroom x_28 w = true:=sroom_of (by omega)
   have r2 : sroom (x_28 ++ w) x_29 = true:=sroom_of (by rw [size_app]; omega)
   refine ⟨(x_28 ++ w) ++ x_29,Ev.step (Ev.of_eq (g:=fun n=>(ref1_show n e).bind fun r2=>bif sroom x_28 r2 then bif sroom (x_28 ++ r2) x_29 then some ((x_28 ++ r2) ++ x_29) else none else none) (fun n=>?_) (Ev.bind k1 ?_)),?_,by simp only [size_app]; omega⟩
   ·simp only [ref1_side,hlv,Option.bind_some,decide_eq_true hc,cond_true]
   ·simp only [r1,r2,cond_true]; exact Ev.ret _
   ·unfold tkS
    rw [decide_eq_true hc,cond_true]
    exact (Ch.app (Ch0.app1 sg28 kc) sg29 st29).ch
  ·refine ⟨w,Ev.step (Ev.of_eq (g:=fun n=>(ref1_show n e).bind fun r5=>some r5) (fun n=>?_) (Ev.bind k1 (Ev.ret _))),?_,by omega⟩
   ·simp only [ref1_side,hlv,Option.bind_some,decide_eq_false hc,cond_false]
   ·unfold tkS
    rw [decide_eq_false hc,cond_false]; exact kc
theorem tabsT : ∀ m : Nat,m ≤ 100000 → ∃ w,Ev (fun n=>ref1_tabs n (m : Int)) w ∧ w.size = m ∧ Ch0 w []
 | 0,_=>⟨b0,Ev.step (Ev.of_eq (g:=fun n=>some b0) (fun n=>by simp only [ref1_tabs]; rfl) (Ev.ret _)),rfl,Ch0.nil⟩
 | m + 1,h=>by
  obtain ⟨w,k1,k2,k3⟩:=tabsT m (by omega)
  have d : decide (((m + 1 : Nat) : Int) ≤ 0) = false:=decide_eq_false (by omega)
  have e : wr (((m + 1 : Nat) : Int) - 1) = (m : Int):=by rw [wr_of (by omega)]; omega
  have z : x_09.size = 1:=rfl
  have r : sroom x_09 w = true:=sroom_of (by omega)
  refine ⟨x_09 ++ w,Ev.step (Ev.of_eq (g:=fun n=>(ref1_tabs n (m : Int)).bind fun r1=>bif sroom x_09 r1 then some (x_09 ++ r1) else none) (fun n=>?_) (Ev.bind k1 ?_)),by rw [size_app]; omega,Ch0.app sg09 k3⟩
  ·simp only [ref1_tabs,d,cond_false,e]
  ·simp only [r,cond_true]; exact Ev.ret _
mutual
def tkSt : Stmt → List Key
 | ⟨k,w,v,m,e,b,l,_⟩=>bif (k == 1) then (1,w,0) :: (3,x_3d,0) :: tkE 4 e else bif (k == 2) then [(1,k_lock,0),(1,w,0)] else bif (k == 3) then [(1,k_unlock,0),(1,w,0)] else
  bif (k == 4) then (1,k_send,0) :: (1,w,0) :: tkE 4 e else bif (k == 5) then [(1,k_recv,0),(1,w,0),(1,v,0)] else bif (k == 6) then (1,k_print,0) :: tkE 4 e else
  bif (k == 9) then [(1,k_goto,0),(1,w,0)] else bif (k == 10) then [(1,k_label,0),(1,w,0)] else
  bif (k == 7) then (1,k_if,0) :: (tkE 4 e ++ ((3,x_7b,0) :: (tkB b ++ ((3,x_7d,0) :: (bif l.isEmpty then [] else (1,k_else,0) :: (3,x_7b,0) :: (tkB l ++ [(3,x_7d,0)])))))) else
  (1,k_repeat,0) :: (2,dg m,m) :: (3,x_7b,0) :: (tkB b ++ [(3,x_7d,0)])
def tkB : List Stmt → List Key
 | []=>[]
 | s :: r=>tkSt s ++ tkB r
end
theorem linesT : (∀ s : Stmt,∀ d m : Nat,okS d s → m + d ≤ 3 → wt s ≤ 2000 → (∃ w,Ev (fun n=>ref1_lines n s.Body ((m + 1 : Nat) : Int)) w ∧ w.size ≤ 4 * wtl s.Body ∧ Ch0 w (tkB s.Body)) ∧ ∃ w,Ev (fun n=>ref1_lines n s.Else ((m + 1 : Nat) : Int)) w ∧ w.size ≤ 4 * wtl s.Else ∧ Ch0 w (tkB s.Else)) ∧
  ∀ l : List Stmt,∀ (d m : Nat) (in_ : ByteArray) (pre : List Stmt) (acc : ByteArray) (ta : List Key),okSl d l → m ≤ 100 → (l ≠ [] → m + d ≤ 3) → wtl l ≤ 2000 → in_.size = m → Ch0 in_ [] → (pre ++ l).length ≤ 2000 → acc.size + 4 * wtl l ≤ 100000000 → Ch0 acc ta →
   ∃ w,Ev (fun n=>ref1_lines_L0 n (pre ++ l) (m : Int) in_ acc pre.length) w ∧ w.size ≤ acc.size + 4 * wtl l ∧ Ch0 w (ta ++ tkB l):=by
 have wlen : ∀ l : List Stmt,l.length ≤ wtl l:=by
  intro l
  induction l with
  | nil=>simp
  | cons s r ih=>cases s; rw [List.length_cons,wtl,wt]; omega
 have blk : ∀ l : List Stmt,(∀ (d m : Nat) (in_ : ByteArray) (pre : List Stmt) (acc : ByteArray) (ta : List Key),okSl d l → m ≤ 100 → (l ≠ [] → m + d ≤ 3) → wtl l ≤ 2000 → in_.size = m → Ch0 in_ [] → (pre ++ l).length ≤ 2000 → acc.size + 4 * wtl l ≤ 100000000 → Ch0 acc ta →
   ∃ w,Ev (fun n=>ref1_lines_L0 n (pre ++ l) (m : Int) in_ acc pre.length) w ∧ w.size ≤ acc.size + 4 * wtl l ∧ Ch0 w (ta ++ tkB l)) →
   ∀ d m : Nat,okSl d l → m ≤ 100 → (l ≠ [] → m + d ≤ 3) → wtl l ≤ 2000 → ∃ w,Ev (fun n=>ref1_lines n l (m : Int)) w ∧ w.size ≤ 4 * wtl l ∧ Ch0 w (tkB l):=by
  intro l ih d m h1 h2 h3 h4
  obtain ⟨t,k1,k2,k3⟩:=tabsT m (by omega)
  have z : b0.size = 0:=rfl
  obtain ⟨w,l1,l2,l3⟩:=ih d m t [] b0 [] h1 h2 h3 h4 k2 k3 (by have:=wlen l; simp; omega) (by omega) Ch0.nil
  exact ⟨w,Ev.step (Ev.of_eq (g:=fun n=>(ref1_tabs n (m : Int)).bind fun r1=>ref1_lines_L0 n l (m : Int) r1 b0 0) (fun n=>by simp only [ref1_lines]) (Ev.bind k1 l1)),by omega,l3⟩
 refine stmt_ind ?_ ?_ ?_
 ·intro k w v m e b l a ihb ihl d q h hq hw
  rw [okS] at h
  rw [wt] at hw
  have c : ∀ x : List Stmt,(d = 0 → x = []) → x ≠ [] → q + 1 + (d - 1) ≤ 3:=fun x hx hne=>by
   rcases Nat.eq_zero_or_pos d with h0 | h0
   ·exact absurd (hx h0) hne
   ·omega
  exact ⟨blk b ihb _ (q + 1) h.2.2.2.1 (by omega) (c b fun h0=>(h.2.1 h0).1) (by omega),blk l ihl _ (q + 1) h.2.2.2.2 (by omega) (c l fun h0=>(h.2.1 h0).2) (by omega)⟩
 ·intro d m in_ pre acc ta _ _ _ _ _ _ _ _ hc
  exact ⟨acc,Ev.step (Ev.of_eq (g:=fun n=>some acc) (fun n=>by simp only [ref1_lines_L0,List.append_nil,ix_ge,cond_false]) (Ev.ret _)),by simp [wtl],by rw [tkB,List.append_nil]; exact hc⟩
 ·intro s r ihs ihr d m in_ pre acc ta h h100 hmd h2 h3 hin h4 h5 hacc
  have hmd3:=hmd (by simp)
  rw [okSl] at h
  rw [wtl] at h2 h5
  have hp : pre.length + 1 ≤ 2000:=by simp at h4; omega
  have hsub:=ihs d m h.1 hmd3 (by omega)
  have hw:=ix_wr pre s (by omega)
  have hws : 10 ≤ wt s ∧ wt s = 10 + 2 * (wtl s.Body + wtl s.Else):=by cases s; rw [wt]; simp
  obtain ⟨⟨wb,hb1,hb2,hb3⟩,wl,hl1,hl2,hl3⟩:=hsub
  have zn : x_0a.size = 1:=rfl
  obtain ⟨FF,hFF⟩ : ∃ FF : Nat → ByteArray → Option ByteArray,∀ n line,FF n line = bif sroom acc in_ then bif sroom (acc ++ in_) line then bif sroom ((acc ++ in_) ++ line) x_0a then ref1_lines_L0 n (pre ++ s :: r) (m : Int) in_ (((acc ++ in_) ++ line) ++ x_0a) (wr ((pre.length : Int) + 1)) else none else none else none:=⟨_,fun _ _=>rfl⟩

  have fin : ∀ (line : ByteArray) (tl : List Key),line.size + m + 1 ≤ 4 * wt s → Ch line tl → tkSt s = tl → ∃ w,Ev (fun n=>FF n line) w ∧ w.size ≤ acc.size + 4 * (wt s + wtl r) ∧ Ch0 w (ta ++ (tkSt s ++ tkB r)):=by
   intro line tl hline hch htl
   have r1 : sroom acc in_ = true:=sroom_of (by omega)
   have r2 : sroom (acc ++ in_) line = true:=sroom_of (by rw [size_app]; omega)
   have r3 : sroom ((acc ++ in_) ++ line) x_0a = true:=sroom_of (by rw [size_app,size_app]; omega)
   obtain ⟨w,k1,k2,k3⟩:=ihr d m in_ (pre ++ [s]) (((acc ++ in_) ++ line) ++ x_0a) _ h.2 h100 (fun _=>hmd3) (by omega) h3 hin (by rw [← ix_cons]; exact h4) (by simp only [size_app]; omega) (Ch.app (Ch0.app1 (Ch0.app hacc hin) hch) sg0a st0a)
   refine ⟨w,?_,by simp only [size_app] at k2; omega,by rw [htl]; simpa using k3⟩
   simp only [hFF,r1,r2,r3,cond_true,hw]
   rw [ix_cons]; exact k1
  rw [wtl,tkB]
  have z20 : x_20.size = 1:=rfl
  have z7d : x_7d.size = 1:=rfl
  have ze : x_203d20.size = 3:=rfl
  have zlk : x_6c6f636b20.size = 5:=rfl
  have zul : x_756e6c6f636b20.size = 7:=rfl
  have zsd : x_73656e6420.size = 5:=rfl
  have zrc : x_7265637620.size = 5:=rfl
  have zpr : x_7072696e7420.size = 6:=rfl
  have zgo : x_676f746f20.size = 5:=rfl
  have zlb : x_6c6162656c20.size = 6:=rfl
  have zif : x_696620.size = 3:=rfl
  have zop : x_207b0a.size = 3:=rfl
  have zel : x_20656c7365207b0a.size = 8:=rfl
  have zrp : x_72657065617420.size = 7:=rfl
  obtain ⟨k,w,v,mm,e,b,l,a⟩:=s
  obtain ⟨hH,_,hzE,_,_⟩:=(show okS d ⟨k,w,v,mm,e,b,l,a⟩ from h.1)
  simp only at hb1 hb2 hb3 hl1 hl2 hl3 fin hws
  have lift : ∀ (G : Nat → Option ByteArray),(∃ w',Ev G w' ∧ w'.size ≤ acc.size + 4 * (wt ⟨k,w,v,mm,e,b,l,a⟩ + wtl r) ∧ Ch0 w' (ta ++ (tkSt ⟨k,w,v,mm,e,b,l,a⟩ ++ tkB r))) → (∀ n,ref1_lines_L0 (n + 1) (pre ++ ⟨k,w,v,mm,e,b,l,a⟩ :: r) (m : Int) in_ acc pre.length = G n) →
    ∃ w',Ev (fun n=>ref1_lines_L0 n (pre ++ ⟨k,w,v,mm,e,b,l,a⟩ :: r) (m : Int) in_ acc pre.length) w' ∧ w'.size ≤ acc.size + 4 * (wt ⟨k,w,v,mm,e,b,l,a⟩ + wtl r) ∧ Ch0 w' (ta ++ (tkSt ⟨k,w,v,mm,e,b,l,a⟩ ++ tkB r)) :=
   fun G ⟨w',k1,k2⟩ hG=>⟨w',Ev.step (Ev.of_eq hG k1),k2⟩
  have sh : ∀ e : Expr,okE 4 e → szE e ≤ 7 → ∃ t,Ev (fun n=>ref1_show n e) t ∧ Ch t (tkE 4 e) ∧ t.size ≤ 24:=by
   intro e he hz
   obtain ⟨⟨t,t1,t2,t3⟩,_⟩:=showT 4 e he (by omega)
   exact ⟨t,t1,t2,by omega⟩
  cases hH
  case assign =>
   have he : okE 4 e:=by assumption
   have hw' : w ∈ [k_x,k_y,k_z,k_a,k_t]:=by assumption
   obtain ⟨t,t1,tc,t2⟩:=sh e he hzE
   obtain ⟨nz,nc⟩:=nm5 w hw'
   obtain ⟨w',f1,f2⟩:=fin ((w ++ x_203d20) ++ t) _ (by simp only [size_app]; omega) (Ch0.app1 (Ch.app nc sgas stas) tc) (by rw [tkSt]; rfl)
   refine lift (fun n=>(ref1_show n e).bind fun r9=>bif sroom (w ++ x_203d20) r9 then FF n ((w ++ x_203d20) ++ r9) else none) ⟨w',Ev.bind t1 ?_,f2⟩ fun n=>?_
   ·simp only [show sroom (w ++ x_203d20) t = true from sroom_of (by simp only [size_app]; omega),cond_true]; exact f1
   ·simp only [ref1_lines_L0,ix_lt,cond_true,ix_get,Option.bind_some,jn,show sroom w x_203d20 = true from sroom_of (by omega),hFF]; try rfl
  case lock =>
   obtain ⟨nz,nc⟩:=nmm
   obtain ⟨w',f1,f2⟩:=fin (x_6c6f636b20 ++ k_m) _ (by simp only [size_app]; omega) (Ch0.app1 kw_lock nc) (by rw [tkSt]; rfl)
   refine lift (fun n=>FF n (x_6c6f636b20 ++ k_m)) ⟨w',f1,f2⟩ fun n=>?_
   simp only [ref1_lines_L0,ix_lt,cond_true,ix_get,Option.bind_some,jn,show sroom x_6c6f636b20 k_m = true from sroom_of (by omega),hFF]; try rfl
  case unlock =>
   obtain ⟨nz,nc⟩:=nmm
   obtain ⟨w',f1,f2⟩:=fin (x_756e6c6f636b20 ++ k_m) _ (by simp only [size_app]; omega) (Ch0.app1 kw_unlock nc) (by rw [tkSt]; rfl)
   refine lift (fun n=>FF n (x_756e6c6f636b20 ++ k_m)) ⟨w',f1,f2⟩ fun n=>?_
   simp only [ref1_lines_L0,ix_lt,cond_true,ix_get,Option.bind_some,jn,show sroom x_756e6c6f636b20 k_m = true from sroom_of (by omega),hFF]; try rfl
  case send =>
   have he : okE 4 e:=by assumption
   have hw' : w ∈ [k_c,k_d]:=by assumption
   obtain ⟨t,t1,tc,t2⟩:=sh e he hzE
   obtain ⟨nz,nc⟩:=nm2 w hw'
   obtain ⟨w',f1,f2⟩:=fin (((x_73656e6420 ++ w) ++ x_20) ++ t) _ (by simp only [size_app]; omega) (Ch0.app1 (Ch.app (Ch0.app1 kw_send nc) sg20 st20) tc) (by rw [tkSt]; rfl)
   refine lift (fun n=>(ref1_show n e).bind fun r9=>bif sroom ((x_73656e6420 ++ w) ++ x_20) r9 then FF n (((x_73656e6420 ++ w) ++ x_20) ++ r9) else none) ⟨w',Ev.bind t1 ?_,f2⟩ fun n=>?_
   ·simp only [show sroom ((x_73656e6420 ++ w) ++ x_20) t = true from sroom_of (by simp only [size_app]; omega),cond_true]; exact f1
   ·simp only [ref1_lines_L0,ix_lt,cond_true,ix_get,Option.bind_some,jn,show sroom x_73656e6420 w = true from sroom_of (by omega),show sroom (x_73656e6420 ++ w) x_20 = true from sroom_of (by simp only [size_app]; omega),hFF]; try rfl
  case recv =>
   have hw' : w ∈ [k_c,k_d]:=by assumption
   have hv : v ∈ [k_x,k_y,k_z,k_a,k_t]:=by assumption
   obtain ⟨nz,nc⟩:=nm2 w hw'
   obtain ⟨nz',nc'⟩:=nm5 v hv
   obtain ⟨w',f1,f2⟩:=fin (((x_7265637620 ++ w) ++ x_20) ++ v) _ (by simp only [size_app]; omega) (Ch0.app1 (Ch.app (Ch0.app1 kw_recv nc) sg20 st20) nc') (by rw [tkSt]; rfl)
   refine lift (fun n=>FF n (((x_7265637620 ++ w) ++ x_20) ++ v)) ⟨w',f1,f2⟩ fun n=>?_
   simp only [ref1_lines_L0,ix_lt,cond_true,ix_get,Option.bind_some,jn,show sroom x_7265637620 w = true from sroom_of (by omega),show sroom (x_7265637620 ++ w) x_20 = true from sroom_of (by simp only [size_app]; omega),show sroom ((x_7265637620 ++ w) ++ x_20) v = true from sroom_of (by simp only [size_app]; omega),hFF]; try rfl
  case print =>
   have he : okE 4 e:=by assumption
   obtain ⟨t,t1,tc,t2⟩:=sh e he hzE
   obtain ⟨w',f1,f2⟩:=fin (x_7072696e7420 ++ t) _ (by simp only [size_app]; omega) (Ch0.app1 kw_print tc) (by rw [tkSt]; rfl)
   refine lift (fun n=>(ref1_show n e).bind fun r9=>bif sroom x_7072696e7420 r9 then FF n (x_7072696e7420 ++ r9) else none) ⟨w',Ev.bind t1 ?_,f2⟩ fun n=>?_
   ·simp only [show sroom x_7072696e7420 t = true from sroom_of (by omega),cond_true]; exact f1
   ·simp only [ref1_lines_L0,ix_lt,cond_true,ix_get,Option.bind_some,jn,hFF]; try rfl
  case goto =>
   have hw' : w ∈ [k_l,k_k]:=by assumption
   obtain ⟨nz,nc⟩:=nml w hw'
   obtain ⟨w',f1,f2⟩:=fin (x_676f746f20 ++ w) _ (by simp only [size_app]; omega) (Ch0.app1 kw_goto nc) (by rw [tkSt]; rfl)
   refine lift (fun n=>FF n (x_676f746f20 ++ w)) ⟨w',f1,f2⟩ fun n=>?_
   simp only [ref1_lines_L0,ix_lt,cond_true,ix_get,Option.bind_some,jn,show sroom x_676f746f20 w = true from sroom_of (by omega),hFF]; try rfl
  case label =>
   have hw' : w ∈ [k_l,k_k]:=by assumption
   obtain ⟨nz,nc⟩:=nml w hw'
   obtain ⟨w',f1,f2⟩:=fin (x_6c6162656c20 ++ w) _ (by simp only [size_app]; omega) (Ch0.app1 kw_label nc) (by rw [tkSt]; rfl)
   refine lift (fun n=>FF n (x_6c6162656c20 ++ w)) ⟨w',f1,f2⟩ fun n=>?_
   simp only [ref1_lines_L0,ix_lt,cond_true,ix_get,Option.bind_some,jn,show sroom x_6c6162656c20 w = true from sroom_of (by omega),hFF]; try rfl
  case rep =>
   have q0 : 0 ≤ mm:=by assumption
   have q1 : mm ≤ 2:=by assumption
   obtain ⟨t1,t2,tc⟩:=digitsT mm q0 (by omega)
   have hm1 : wr ((m : Int) + 1) = ((m + 1 : Nat) : Int):=by rw [wr_of (by omega)]; rfl
   generalize hdg : dg mm = t at t1 t2 tc
   obtain ⟨w',f1,f2⟩:=fin (((((x_72657065617420 ++ t) ++ x_207b0a) ++ wb) ++ in_) ++ x_7d) _ (by simp only [size_app]; omega) (Ch0.app (Ch0.app (Ch0.app (Ch.app (Ch0.app1 kw_repeat tc) sgop stop_) hb3) hin) sg7d).ch (by rw [tkSt,hdg]; simp)
   refine lift (fun n=>(ref1_Digits n mm).bind fun r36=>bif sroom x_72657065617420 r36 then bif sroom (x_72657065617420 ++ r36) x_207b0a then (ref1_lines n b ((m + 1 : Nat) : Int)).bind fun r39=>bif sroom ((x_72657065617420 ++ r36) ++ x_207b0a) r39 then bif sroom (((x_72657065617420 ++ r36) ++ x_207b0a) ++ r39) in_ then bif sroom ((((x_72657065617420 ++ r36) ++ x_207b0a) ++ r39) ++ in_) x_7d then
    FF n (((((x_72657065617420 ++ r36) ++ x_207b0a) ++ r39) ++ in_) ++ x_7d) else none else none else none else none else none) ⟨w',Ev.bind t1 ?_,f2⟩ fun n=>?_
   ·simp only [show sroom x_72657065617420 t = true from sroom_of (by omega),show sroom (x_72657065617420 ++ t) x_207b0a = true from sroom_of (by simp only [size_app]; omega),cond_true]
    refine Ev.bind hb1 ?_
    simp only [show sroom ((x_72657065617420 ++ t) ++ x_207b0a) wb = true from sroom_of (by simp only [size_app]; omega),show sroom (((x_72657065617420 ++ t) ++ x_207b0a) ++ wb) in_ = true from sroom_of (by simp only [size_app]; omega),show sroom ((((x_72657065617420 ++ t) ++ x_207b0a) ++ wb) ++ in_) x_7d = true from sroom_of (by simp only [size_app]; omega),cond_true]
    exact f1
   ·simp only [ref1_lines_L0,ix_lt,cond_true,ix_get,Option.bind_some,jn,hm1,decide_eq_true (show mm ≥ 0 from q0),hFF]; try rfl
  case cond =>
   have he : okE 4 e:=by assumption
   obtain ⟨t,t1,tc,t2⟩:=sh e he hzE
   have hm1 : wr ((m : Int) + 1) = ((m + 1 : Nat) : Int):=by rw [wr_of (by omega)]; rfl
   have s1 : sroom x_696620 t = true:=sroom_of (by omega)
   have s2 : sroom (x_696620 ++ t) x_207b0a = true:=sroom_of (by simp only [size_app]; omega)
   have s3 : sroom ((x_696620 ++ t) ++ x_207b0a) wb = true:=sroom_of (by simp only [size_app]; omega)
   have s4 : sroom (((x_696620 ++ t) ++ x_207b0a) ++ wb) in_ = true:=sroom_of (by simp only [size_app]; omega)
   have s5 : sroom ((((x_696620 ++ t) ++ x_207b0a) ++ wb) ++ in_) x_7d = true:=sroom_of (by simp only [size_app]; omega)
   have c5:=Ch0.app (Ch0.app (Ch0.app (Ch.app (Ch0.app1 kw_if tc) sgop stop_) hb3) hin) sg7d
   cases l with
   | nil =>
    have hE : decide (ln ([] : List Stmt) > 0) = false:=rfl
    obtain ⟨w',f1,f2⟩:=fin (((((x_696620 ++ t) ++ x_207b0a) ++ wb) ++ in_) ++ x_7d) _ (by simp only [size_app]; omega) c5.ch (by rw [tkSt]; simp)
    refine lift (fun n=>(ref1_show n e).bind fun r24=>bif sroom x_696620 r24 then bif sroom (x_696620 ++ r24) x_207b0a then (ref1_lines n b ((m + 1 : Nat) : Int)).bind fun r27=>bif sroom ((x_696620 ++ r24) ++ x_207b0a) r27 then bif sroom (((x_696620 ++ r24) ++ x_207b0a) ++ r27) in_ then bif sroom ((((x_696620 ++ r24) ++ x_207b0a) ++ r27) ++ in_) x_7d then
     FF n (((((x_696620 ++ r24) ++ x_207b0a) ++ r27) ++ in_) ++ x_7d) else none else none else none else none else none) ⟨w',Ev.bind t1 ?_,f2⟩ fun n=>?_
    ·simp only [s1,s2,cond_true]
     refine Ev.bind hb1 ?_
     simp only [s3,s4,s5,cond_true]
     exact f1
    ·simp only [ref1_lines_L0,ix_lt,cond_true,ix_get,Option.bind_some,jn,hm1,hE,cond_false,hFF]; try rfl
   | cons l0 lr =>
    have hE : decide (ln (l0 :: lr) > 0) = true:=decide_eq_true (by show (((l0 :: lr).length : Nat) : Int) > 0; rw [List.length_cons]; omega)
    have h10 : 10 ≤ wtl (l0 :: lr):=by
     have h11 : 10 ≤ wt l0:=by cases l0; simp only [wt]; omega
     rw [wtl]; omega
    have s6 : sroom (((((x_696620 ++ t) ++ x_207b0a) ++ wb) ++ in_) ++ x_7d) x_20656c7365207b0a = true:=sroom_of (by simp only [size_app]; omega)
    have s7 : sroom ((((((x_696620 ++ t) ++ x_207b0a) ++ wb) ++ in_) ++ x_7d) ++ x_20656c7365207b0a) wl = true:=sroom_of (by simp only [size_app]; omega)
    have s8 : sroom (((((((x_696620 ++ t) ++ x_207b0a) ++ wb) ++ in_) ++ x_7d) ++ x_20656c7365207b0a) ++ wl) in_ = true:=sroom_of (by simp only [size_app]; omega)
    have s9 : sroom ((((((((x_696620 ++ t) ++ x_207b0a) ++ wb) ++ in_) ++ x_7d) ++ x_20656c7365207b0a) ++ wl) ++ in_) x_7d = true:=sroom_of (by simp only [size_app]; omega)
    obtain ⟨w',f1,f2⟩:=fin (((((((((x_696620 ++ t) ++ x_207b0a) ++ wb) ++ in_) ++ x_7d) ++ x_20656c7365207b0a) ++ wl) ++ in_) ++ x_7d) _ (by simp only [size_app]; omega) (Ch0.app (Ch0.app (Ch0.app (Ch0.app c5 kw_else) hl3) hin) sg7d).ch (by rw [tkSt]; simp)
    refine lift (fun n=>(ref1_show n e).bind fun r24=>bif sroom x_696620 r24 then bif sroom (x_696620 ++ r24) x_207b0a then (ref1_lines n b ((m + 1 : Nat) : Int)).bind fun r27=>bif sroom ((x_696620 ++ r24) ++ x_207b0a) r27 then bif sroom (((x_696620 ++ r24) ++ x_207b0a) ++ r27) in_ then bif sroom ((((x_696620 ++ r24) ++ x_207b0a) ++ r27) ++ in_) x_7d then
     bif sroom (((((x_696620 ++ r24) ++ x_207b0a) ++ r27) ++ in_) ++ x_7d) x_20656c7365207b0a then (ref1_lines n (l0 :: lr) ((m + 1 : Nat) : Int)).bind fun r32=>bif sroom ((((((x_696620 ++ r24) ++ x_207b0a) ++ r27) ++ in_) ++ x_7d) ++ x_20656c7365207b0a) r32 then bif sroom (((((((x_696620 ++ r24) ++ x_207b0a) ++ r27) ++ in_) ++ x_7d) ++ x_20656c7365207b0a) ++ r32) in_ then bif sroom ((((((((x_696620 ++ r24) ++ x_207b0a) ++ r27) ++ in_) ++ x_7d) ++ x_20656c7365207b0a) ++ r32) ++ in_) x_7d then
     FF n (((((((((x_696620 ++ r24) ++ x_207b0a) ++ r27) ++ in_) ++ x_7d) ++ x_20656c7365207b0a) ++ r32) ++ in_) ++ x_7d) else none else none else none else none else none else none else none else none else none) ⟨w',Ev.bind t1 ?_,f2⟩ fun n=>?_
    ·simp only [s1,s2,cond_true]
     refine Ev.bind hb1 ?_
     simp only [s3,s4,s5,s6,cond_true]
     refine Ev.bind hl1 ?_
     simp only [s7,s8,s9,cond_true]
     exact f1
    ·simp only [ref1_lines_L0,ix_lt,cond_true,ix_get,Option.bind_some,jn,hm1,hE,hFF]; try rfl
theorem linesBT (l : List Stmt) (h : okSl 2 l) (hw : wtl l ≤ 2000) : ∃ w,Ev (fun n=>ref1_lines n l ((1 : Nat) : Int)) w ∧ w.size ≤ 4 * wtl l ∧ Ch0 w (tkB l):=by
 have wlen : ∀ l : List Stmt,l.length ≤ wtl l:=by
  intro l
  induction l with
  | nil=>simp
  | cons s r ih=>cases s; rw [List.length_cons,wtl,wt]; omega
 obtain ⟨t,k1,k2,k3⟩:=tabsT 1 (by omega)
 have z : b0.size = 0:=rfl
 obtain ⟨w,l1,l2,l3⟩:=linesT.2 l 2 1 t [] b0 [] h (by omega) (fun _=>by omega) hw k2 k3 (by have:=wlen l; simp; omega) (by omega) Ch0.nil
 exact ⟨w,Ev.step (Ev.of_eq (g:=fun n=>(ref1_tabs n ((1 : Nat) : Int)).bind fun r1=>ref1_lines_L0 n l ((1 : Nat) : Int) r1 b0 0) (fun n=>by simp only [ref1_lines]) (Ev.bind k1 l1)),by omega,l3⟩
def kwD (k : Int) : ByteArray:=bif (k == 1) then k_var else bif (k == 2) then k_wide else bif (k == 3) then k_atomic else bif (k == 4) then k_local else bif (k == 5) then k_mutex else k_chan
def tkD (d : Decl) : List Key:=(1,kwD d.Kind,0) :: (1,d.Name,0) :: (bif (d.Kind == 6) then [(2,dg d.N,d.N)] else [])
def tkDs : List Decl → List Key
 | []=>[]
 | d :: r=>tkD d ++ tkDs r
def tkTs : List (List Stmt) → List Key
 | []=>[]
 | t :: r=>(1,k_go,0) :: (3,x_7b,0) :: (tkB t ++ ((3,x_7d,0) :: tkTs r))
def wtT : List (List Stmt) → Nat
 | []=>0
 | t :: r=>7 + 4 * wtl t + wtT r
theorem kwDT (k : Int) (h1 : 1 ≤ k) (h2 : k ≤ 6) : idx [b0,k_var,k_wide,k_atomic,k_local,k_mutex,k_chan] k = some (kwD k) ∧ (kwD k).size ≤ 6 ∧ Ch (kwD k) [(1,kwD k,0)]:=by
 have : k = 1 ∨ k = 2 ∨ k = 3 ∨ k = 4 ∨ k = 5 ∨ k = 6:=by omega
 rcases this with rfl | rfl | rfl | rfl | rfl | rfl
 ·exact ⟨rfl,by decide,Ch.word k_var 118 [97,114] rfl (by decide)⟩
 ·exact ⟨rfl,by decide,Ch.word k_wide 119 [105,100,101] rfl (by decide)⟩
 ·exact ⟨rfl,by decide,Ch.word k_atomic 97 [116,111,109,105,99] rfl (by decide)⟩
 ·exact ⟨rfl,by decide,Ch.word k_local 108 [111,99,97,108] rfl (by decide)⟩
 ·exact ⟨rfl,by decide,Ch.word k_mutex 109 [117,116,101,120] rfl (by decide)⟩
 ·exact ⟨rfl,by decide,Ch.word k_chan 99 [104,97,110] rfl (by decide)⟩
theorem ShowT_L1 (D : List Decl) (ts : List (List Stmt)) (w2 : ByteArray) (i3 : Int) (hts : okTs ts) (hn : ts.length ≤ 100) : ∀ (l pre : List (List Stmt)) (acc : ByteArray) (ta : List Key),ts = pre ++ l → acc.size + wtT l ≤ 1000000000000 → Ch0 acc ta → ∃ w,Ev (fun n=>ref1_Show_L1 n ⟨D,ts⟩ w2 i3 acc pre.length) w ∧ Ch0 w (ta ++ tkTs l) ∧ w.size ≤ acc.size + wtT l
 | [],pre,acc,ta,e,h,hc=>by
  rw [List.append_nil] at e
  have l1 : decide ((pre.length : Int) < ln ts) = false:=by rw [e]; exact ix_ge _
  exact ⟨acc,Ev.step (Ev.of_eq (g:=fun n=>some acc) (fun n=>by simp only [ref1_Show_L1,l1,cond_false]) (Ev.ret _)),by rw [tkTs,List.append_nil]; exact hc,by omega⟩
 | t :: r,pre,acc,ta,e,h,hc=>by
  have hp : pre.length + 1 ≤ 100:=by have:=congrArg List.length e; simp at this; omega
  have l1 : decide ((pre.length : Int) < ln ts) = true:=by rw [e]; exact ix_lt _ _ _
  have l2 : idx ts (pre.length : Int) = some t:=by rw [e]; exact ix_get _ _ _
  obtain ⟨h1,h2⟩:=hts t (by rw [e]; simp)
  obtain ⟨wl,k1,k2,k3⟩:=linesBT t h1 (by omega)
  rw [wtT] at h ⊢
  have z1 : x_676f207b0a.size = 5:=rfl
  have z2 : x_7d0a.size = 2:=rfl
  have r1 : sroom acc x_676f207b0a = true:=sroom_of (by omega)
  have r2 : sroom (acc ++ x_676f207b0a) wl = true:=sroom_of (by rw [size_app]; omega)
  have r3 : sroom ((acc ++ x_676f207b0a) ++ wl) x_7d0a = true:=sroom_of (by rw [size_app,size_app]; omega)
  obtain ⟨w,m1,m2,m3⟩:=ShowT_L1 D ts w2 i3 hts hn r (pre ++ [t]) (((acc ++ x_676f207b0a) ++ wl) ++ x_7d0a) _ (by rw [e]; exact ix_cons _ _ _) (by simp only [size_app]; omega) (Ch0.app (Ch0.app (Ch0.app hc kw_go) k3) kw_end)
  refine ⟨w,Ev.step (Ev.of_eq (g:=fun n=>(ref1_lines n t ((1 : Nat) : Int)).bind fun r21=>bif sroom (acc ++ x_676f207b0a) r21 then bif sroom ((acc ++ x_676f207b0a) ++ r21) x_7d0a then ref1_Show_L1 n ⟨D,ts⟩ w2 i3 (((acc ++ x_676f207b0a) ++ r21) ++ x_7d0a) ((pre ++ [t]).length) else none else none) (fun n=>?_) (Ev.bind k1 ?_)),by rw [tkTs]; simpa using m2,by simp only [size_app] at m3; omega⟩
  ·simp only [ref1_Show_L1,l1,l2,r1,cond_true,Option.bind_some]
   rw [ix_wr pre t (by omega)]; rfl
  ·simp only [r2,r3,cond_true]; exact m1
def rdD (d : Decl) : Prop:=1 ≤ d.Kind ∧ d.Kind ≤ 6 ∧ 0 ≤ d.N ∧ d.N ≤ 9 ∧ d.Name.size = 1 ∧ Ch d.Name [(1,d.Name,0)]
theorem ShowT_L0 (D : List Decl) (ts : List (List Stmt)) (hD : ∀ d ∈ D,rdD d) (hDn : D.length ≤ 1000) (hts : okTs ts) (hn : ts.length ≤ 100) (hwT : wtT ts ≤ 1000000) : ∀ (l pre : List Decl) (acc : ByteArray) (ta : List Key),D = pre ++ l → acc.size + 11 * l.length ≤ 100000000 → Ch0 acc ta → ∃ w,Ev (fun n=>ref1_Show_L0 n ⟨D,ts⟩ acc pre.length) w ∧ Ch0 w (ta ++ tkDs l ++ tkTs ts) ∧ w.size ≤ acc.size + 11 * l.length + wtT ts
 | [],pre,acc,ta,e,h,hc=>by
  rw [List.append_nil] at e
  have l1 : decide ((pre.length : Int) < ln D) = false:=by rw [e]; exact ix_ge _
  obtain ⟨w,m1,m2,m3⟩:=ShowT_L1 D ts acc (pre.length : Int) hts hn ts [] acc ta rfl (by simp at h; omega) hc
  exact ⟨w,Ev.step (Ev.of_eq (fun n=>by simp only [ref1_Show_L0,l1,cond_false]; rfl) m1),by rw [tkDs,List.append_nil]; exact m2,by simp; omega⟩
 | t :: r,pre,acc,ta,e,h,hc=>by
  have hp : pre.length + 1 ≤ 1000:=by have:=congrArg List.length e; simp at this; omega
  have l1 : decide ((pre.length : Int) < ln D) = true:=by rw [e]; exact ix_lt _ _ _
  have l2 : idx D (pre.length : Int) = some t:=by rw [e]; exact ix_get _ _ _
  obtain ⟨a1,a2,a3,a4,a5,a6⟩:=hD t (by rw [e]; simp)
  rw [List.length_cons] at h ⊢
  have hw:=ix_wr pre t (by omega)
  obtain ⟨hx7,z7,c7⟩:=kwDT t.Kind a1 a2
  have d1 : decide (t.Kind < 1) = false:=decide_eq_false (by omega)
  have d2 : decide (t.Kind > 6) = false:=decide_eq_false (by omega)
  have z20 : x_20.size = 1:=rfl
  have z0a : x_0a.size = 1:=rfl
  generalize hx : kwD t.Kind = x7 at hx7 z7 c7
  have r1 : sroom acc x7 = true:=sroom_of (by omega)
  have r2 : sroom (acc ++ x7) x_20 = true:=sroom_of (by rw [size_app]; omega)
  have r3 : sroom ((acc ++ x7) ++ x_20) t.Name = true:=sroom_of (by rw [size_app,size_app]; omega)
  have c4:=Ch0.app1 (Ch.app (Ch0.app1 hc c7) sg20 st20) a6
  by_cases h6 : t.Kind = 6
  ·have e6 : (t.Kind == 6) = true:=by simpa using h6
   have e7 : decide (t.N < 0) = false:=decide_eq_false (by omega)
   obtain ⟨k1,k2,kc⟩:=digitsT t.N a3 a4
   generalize hdg : dg t.N = wd at k1 k2 kc
   have r4 : sroom (((acc ++ x7) ++ x_20) ++ t.Name) x_20 = true:=sroom_of (by simp only [size_app]; omega)
   have r5 : sroom ((((acc ++ x7) ++ x_20) ++ t.Name) ++ x_20) wd = true:=sroom_of (by simp only [size_app]; omega)
   have r6 : sroom (((((acc ++ x7) ++ x_20) ++ t.Name) ++ x_20) ++ wd) x_0a = true:=sroom_of (by simp only [size_app]; omega)
   obtain ⟨w,m1,m2,m3⟩:=ShowT_L0 D ts hD hDn hts hn hwT r (pre ++ [t]) ((((((acc ++ x7) ++ x_20) ++ t.Name) ++ x_20) ++ wd) ++ x_0a) _ (by rw [e]; exact ix_cons _ _ _) (by simp only [size_app]; omega) (Ch.app (Ch0.app1 (Ch.app c4 sg20 st20) kc) sg0a st0a)
   refine ⟨w,Ev.step (Ev.of_eq (g:=fun n=>(ref1_Digits n t.N).bind fun r14=>bif sroom ((((acc ++ x7) ++ x_20) ++ t.Name) ++ x_20) r14 then bif sroom (((((acc ++ x7) ++ x_20) ++ t.Name) ++ x_20) ++ r14) x_0a then ref1_Show_L0 n ⟨D,ts⟩ ((((((acc ++ x7) ++ x_20) ++ t.Name) ++ x_20) ++ r14) ++ x_0a) ((pre ++ [t]).length) else none else none) (fun n=>?_) (Ev.bind k1 ?_)),?_,by simp only [size_app] at m3; omega⟩
   ·simp only [ref1_Show_L0,l1,l2,jn,d1,d2,cond_true,cond_false,Option.bind_some,hx7,r1,r2,r3,e6,e7,r4,hw]
   ·simp only [r5,r6,cond_true]; exact m1
   ·rw [tkDs,tkD,e6,cond_true,hx,hdg]; simpa using m2
  ·have e6 : (t.Kind == 6) = false:=by simpa using h6
   have r6 : sroom (((acc ++ x7) ++ x_20) ++ t.Name) x_0a = true:=sroom_of (by simp only [size_app]; omega)
   obtain ⟨w,m1,m2,m3⟩:=ShowT_L0 D ts hD hDn hts hn hwT r (pre ++ [t]) ((((acc ++ x7) ++ x_20) ++ t.Name) ++ x_0a) _ (by rw [e]; exact ix_cons _ _ _) (by simp only [size_app]; omega) (Ch.app c4 sg0a st0a)
   refine ⟨w,Ev.step (Ev.of_eq (fun n=>?_) m1),?_,by simp only [size_app] at m3; omega⟩
   ·simp only [ref1_Show_L0,l1,l2,jn,d1,d2,cond_true,cond_false,Option.bind_some,hx7,r1,r2,r3,e6,r6,hw]
   ·rw [tkDs,tkD,e6,cond_false,hx]; simpa using m2
theorem ShowT_ev (D : List Decl) (ts : List (List Stmt)) (hD : ∀ d ∈ D,rdD d) (hts : okTs ts) (hn : ts.length ≤ 100) (hs : 11 * D.length + wtT ts ≤ 6000) :
  ∃ w T,Ev (fun n=>ref1_Show n ⟨D,ts⟩) w ∧ Ev (fun n=>ref1_Tokens n w) (T ++ [⟨4,b0,0,(w.size : Int)⟩],0,0) ∧ T.map ky = tkDs D ++ tkTs ts ∧ w.size ≤ 6000:=by
 have z : b0.size = 0:=rfl
 obtain ⟨w,h1,h2,h3⟩:=ShowT_L0 D ts hD (by omega) hts hn (by omega) D [] b0 [] rfl (by omega) Ch0.nil
 have hw : w.size ≤ 6000:=by omega
 obtain ⟨T,k1,k2⟩:=h2 [] [] scR_nil w 0 hw (by omega) (by simp) [] (by simp)
 have d : decide ((w.size : Int) > 6000) = false:=decide_eq_false (by omega)
 exact ⟨w,T,Ev.of_eq (fun n=>by simp only [ref1_Show]; rfl) h1,Ev.of_eq (fun n=>by simp only [ref1_Tokens,d,cond_false]; rfl) k1,by simpa using k2,hw⟩
end Go.Su.Ytfmgnboplbgniaa
namespace Go.Su.Ytfmgnboplbgniaa
open Go.Mx Go.Proofs
set_option linter.unusedVariables false
set_option linter.unusedSimpArgs false
set_option maxHeartbeats 4000000
theorem bytesEq_refl (w : ByteArray) : bytesEq w w = true:=by rw [bytesEq_eq]; exact BEq.rfl
def Vw (T : List Token) (at_ : Nat) (ts : List Key) : Prop:=(T.drop at_).map ky = ts
theorem Vw.cons {T : List Token} {at_ : Nat} {k : Key} {r : List Key} (h : Vw T at_ (k :: r)) : (∃ p : Int,idx T (at_ : Int) = some ⟨k.1,k.2.1,k.2.2,p⟩) ∧ at_ < T.length ∧ Vw T (at_ + 1) r:=by
 unfold Vw at h
 cases e : T.drop at_ with
 | nil=>rw [e] at h; simp at h
 | cons t q =>
  rw [e,List.map_cons,List.cons.injEq] at h
  have hl : at_ < T.length:=by
   rcases Nat.lt_or_ge at_ T.length with z | z
   ·exact z
   ·rw [List.drop_eq_nil_of_le z] at e; cases e
  have ht : T[at_]? = some t:=by rw [← List.head?_drop,e]; rfl
  obtain ⟨a,b,c,d⟩:=t
  obtain ⟨h1,h2⟩:=h
  refine ⟨⟨d,idx_of (by omega) (by rw [Int.toNat_natCast,ht,← h1]; rfl)⟩,hl,?_⟩
  unfold Vw
  rw [← List.tail_drop,e]; exact h2
theorem Vw.app {T : List Token} : ∀ {a : List Key} {at_ : Nat} {r : List Key},Vw T at_ (a ++ r) → Vw T (at_ + a.length) r
 | [],at_,r,h=>h
 | k :: a,at_,r,h=>by
  have:=Vw.app (a:=a) (at_:=at_ + 1) (r:=r) (Vw.cons (by simpa using h)).2.2
  rw [show at_ + (k :: a).length = at_ + 1 + a.length by simp; omega]; exact this
def isS (k : Key) (w : ByteArray) : Bool:=bif (k.1 == 3) then bytesEq k.2.1 w else false
section
variable {T : List Token}
theorem sign_k {at_ : Nat} {k : Key} {r : List Key} (h : Vw T at_ (k :: r)) (b : Int) (w : ByteArray) (n : Nat) : ref1_Reader_sign n ⟨T,(at_ : Int),false,b⟩ w = some (isS k w):=by
 obtain ⟨⟨p,h1⟩,_,_⟩:=h.cons
 unfold isS
 cases e : (k.1 == 3) <;> simp only [ref1_Reader_sign,jn,Bool.not_false,cond_true,cond_false,h1,Option.bind_some,e]
theorem word_k {at_ : Nat} {k : Key} {r : List Key} (h : Vw T at_ (k :: r)) (b : Int) (w : ByteArray) (n : Nat) : ref1_Reader_word n ⟨T,(at_ : Int),false,b⟩ w = some (bif (k.1 == 1) then bytesEq k.2.1 w else false):=by
 obtain ⟨⟨p,h1⟩,_,_⟩:=h.cons
 cases e : (k.1 == 1) <;> simp only [ref1_Reader_word,jn,Bool.not_false,cond_true,cond_false,h1,Option.bind_some,e]
theorem isS_self (w : ByteArray) : isS (3,w,0) w = true:=bytesEq_refl w
theorem must_k (g : GoodT T) {at_ : Nat} {w : ByteArray} {r : List Key} (h : Vw T at_ ((3,w,0) :: r)) (b : Int) (n : Nat) : ref1_Reader_must n ⟨T,(at_ : Int),false,b⟩ w = some ⟨T,((at_ + 1 : Nat) : Int),false,b⟩:=by
 have h1:=sign_k h b w n
 rw [isS_self] at h1
 simp only [ref1_Reader_must,h1,Option.bind_some,Bool.not_true,cond_false,wrT g h.cons.2.1]
def NoKw (w : ByteArray) : Prop:=Ev (fun n=>ref1_Keyword n w) false
theorem name_k (g : GoodT T) {at_ : Nat} {w : ByteArray} {r : List Key} (h : Vw T at_ ((1,w,0) :: r)) (hw : NoKw w) (b : Int) : Ev (fun n=>ref1_Reader_name n ⟨T,(at_ : Int),false,b⟩) (w,⟨T,((at_ + 1 : Nat) : Int),false,b⟩):=by
 obtain ⟨⟨p,h1⟩,h2,_⟩:=h.cons
 have e : wr (((at_ + 1 : Nat) : Int) - 1) = (at_ : Int):=by have:=g.len; rw [wr_of (by omega)]; omega
 refine Ev.of_eq (g:=fun n=>(ref1_Keyword n w).bind fun r5=>bif r5 then (ref1_Reader_fail n ⟨T,(at_ : Int),false,b⟩).bind fun r6=>some (b0,r6) else some (w,⟨T,((at_ + 1 : Nat) : Int),false,b⟩)) (fun n=>?_) (Ev.bind hw (Ev.no rfl (Ev.ret _)))
 simp only [ref1_Reader_name,jn,cond_false,h1,Option.bind_some,wrT g h2,e]
 rfl
theorem number_k (g : GoodT T) {at_ : Nat} {w : ByteArray} {m most : Int} {r : List Key} (h : Vw T at_ ((2,w,m) :: r)) (hm : m ≤ most) (b : Int) (n : Nat) : ref1_Reader_number n ⟨T,(at_ : Int),false,b⟩ most = some (m,⟨T,((at_ + 1 : Nat) : Int),false,b⟩):=by
 obtain ⟨⟨p,h1⟩,h2,_⟩:=h.cons
 have e : wr (((at_ + 1 : Nat) : Int) - 1) = (at_ : Int):=by have:=g.len; rw [wr_of (by omega)]; omega
 have d : decide (m > most) = false:=decide_eq_false (by omega)
 simp only [ref1_Reader_number,jn,cond_false,h1,Option.bind_some,d,wrT g h2,e]
 rfl
def Nx (ws : List ByteArray) (r : List Key) : Prop:=∃ k r',r = k :: r' ∧ ∀ w ∈ ws,isS k w = false
abbrev J0 : ByteArray → Expr → Reader → Option (Expr × Reader):=fun _ v v4=>some (v,v4)
theorem term_done {at_ : Nat} {r : List Key} (h : Vw T at_ r) (hr : Nx [x_2a,x_2f,x_25] r) (b : Int) (a0 : Reader) (d : Int) (r1 : Expr × Reader) (e : Expr) : Ev (fun n=>ref1_Reader_term_L0 n a0 d r1 J0 ⟨T,(at_ : Int),false,b⟩ b0 e) (e,⟨T,(at_ : Int),false,b⟩):=by
 obtain ⟨k,r',rfl,hk⟩:=hr
 refine Ev.step (Ev.of_eq (g:=fun n=>some (e,⟨T,(at_ : Int),false,b⟩)) (fun n=>?_) (Ev.ret _))
 simp only [ref1_Reader_term_L0,jn,Bool.not_false,cond_true,sign_k h,hk x_2a (by simp),hk x_2f (by simp),hk x_25 (by simp),Option.bind_some,cond_false]
 rfl
theorem sum_done {at_ : Nat} {r : List Key} (h : Vw T at_ r) (hr : Nx [x_2b,x_2d] r) (b : Int) (a0 : Reader) (d : Int) (r1 : Expr × Reader) (e : Expr) : Ev (fun n=>ref1_Reader_sum_L0 n a0 d r1 J0 ⟨T,(at_ : Int),false,b⟩ b0 e) (e,⟨T,(at_ : Int),false,b⟩):=by
 obtain ⟨k,r',rfl,hk⟩:=hr
 refine Ev.step (Ev.of_eq (g:=fun n=>some (e,⟨T,(at_ : Int),false,b⟩)) (fun n=>?_) (Ev.ret _))
 simp only [ref1_Reader_sum_L0,jn,Bool.not_false,cond_true,sign_k h,hk x_2b (by simp),hk x_2d (by simp),Option.bind_some,cond_false]
 rfl
def RdF (T : List Token) (e : Expr) (ts : List Key) (m : Nat) : Prop:=∀ (at_ : Nat) (r : List Key) (d : Nat) (b : Int),Vw T at_ (ts ++ r) → d + m ≤ 10 → Ev (fun n=>ref1_Reader_factor n ⟨T,(at_ : Int),false,b⟩ (d : Int)) (e,⟨T,((at_ + ts.length : Nat) : Int),false,b⟩)
def RdT (T : List Token) (e : Expr) (ts : List Key) (m : Nat) : Prop:=∀ (at_ : Nat) (r : List Key) (d : Nat) (b : Int) (X : Expr × Reader),Vw T at_ (ts ++ r) → d + m ≤ 10 →
 (∀ a0 r1,Ev (fun n=>ref1_Reader_term_L0 n a0 (d : Int) r1 J0 ⟨T,((at_ + ts.length : Nat) : Int),false,b⟩ b0 e) X) → Ev (fun n=>ref1_Reader_term n ⟨T,(at_ : Int),false,b⟩ (d : Int)) X
def RdS (T : List Token) (e : Expr) (ts : List Key) (m : Nat) : Prop:=∀ (at_ : Nat) (r : List Key) (d : Nat) (b : Int) (X : Expr × Reader),Vw T at_ (ts ++ r) → Nx [x_2a,x_2f,x_25] r → d + m ≤ 10 →
 (∀ a0 r1,Ev (fun n=>ref1_Reader_sum_L0 n a0 (d : Int) r1 J0 ⟨T,((at_ + ts.length : Nat) : Int),false,b⟩ b0 e) X) → Ev (fun n=>ref1_Reader_sum n ⟨T,(at_ : Int),false,b⟩ (d : Int)) X
abbrev allOps : List ByteArray:=[x_2a,x_2f,x_25,x_2b,x_2d,x_3c,x_3d3d]
def RdE (T : List Token) (e : Expr) (ts : List Key) (m : Nat) : Prop:=∀ (at_ : Nat) (r : List Key) (d : Nat) (b : Int),Vw T at_ (ts ++ r) → Nx allOps r → d + m ≤ 10 → Ev (fun n=>ref1_Reader_expr n ⟨T,(at_ : Int),false,b⟩ (d : Int)) (e,⟨T,((at_ + ts.length : Nat) : Int),false,b⟩)
theorem Nx.mono {a b : List ByteArray} {r : List Key} (h : Nx b r) (hab : ∀ w ∈ a,w ∈ b) : Nx a r:=by
 obtain ⟨k,r',h1,h2⟩:=h
 exact ⟨k,r',h1,fun w hw=>h2 w (hab w hw)⟩
theorem RdF.toT {e : Expr} {ts : List Key} {m : Nat} (h : RdF T e ts m) : RdT T e ts m:=fun at_ r d b X hv hd hX=>by
 refine Ev.step (Ev.of_eq (g:=fun n=>(ref1_Reader_factor n ⟨T,(at_ : Int),false,b⟩ (d : Int)).bind fun r1=>ref1_Reader_term_L0 n ⟨T,(at_ : Int),false,b⟩ (d : Int) r1 J0 r1.2 b0 r1.1) (fun n=>by simp only [ref1_Reader_term,jn]) (Ev.bind (h at_ r d b hv hd) (hX _ _)))
theorem RdT.full {e : Expr} {ts : List Key} {m : Nat} (h : RdT T e ts m) (at_ : Nat) (r : List Key) (d : Nat) (b : Int) (hv : Vw T at_ (ts ++ r)) (hr : Nx [x_2a,x_2f,x_25] r) (hd : d + m ≤ 10) : Ev (fun n=>ref1_Reader_term n ⟨T,(at_ : Int),false,b⟩ (d : Int)) (e,⟨T,((at_ + ts.length : Nat) : Int),false,b⟩) :=
 h at_ r d b _ hv hd fun a0 r1=>term_done hv.app hr b a0 _ r1 e
theorem RdT.toS {e : Expr} {ts : List Key} {m : Nat} (h : RdT T e ts m) : RdS T e ts m:=fun at_ r d b X hv hr hd hX=>by
 refine Ev.step (Ev.of_eq (g:=fun n=>(ref1_Reader_term n ⟨T,(at_ : Int),false,b⟩ (d : Int)).bind fun r1=>ref1_Reader_sum_L0 n ⟨T,(at_ : Int),false,b⟩ (d : Int) r1 J0 r1.2 b0 r1.1) (fun n=>by simp only [ref1_Reader_sum,jn]) (Ev.bind (h.full at_ r d b hv hr hd) (hX _ _)))
theorem RdS.full {e : Expr} {ts : List Key} {m : Nat} (h : RdS T e ts m) (at_ : Nat) (r : List Key) (d : Nat) (b : Int) (hv : Vw T at_ (ts ++ r)) (hr : Nx [x_2a,x_2f,x_25] r) (hr2 : Nx [x_2b,x_2d] r) (hd : d + m ≤ 10) : Ev (fun n=>ref1_Reader_sum n ⟨T,(at_ : Int),false,b⟩ (d : Int)) (e,⟨T,((at_ + ts.length : Nat) : Int),false,b⟩) :=
 h at_ r d b _ hv hr hd fun a0 r1=>sum_done hv.app hr2 b a0 _ r1 e
theorem RdS.toE {e : Expr} {ts : List Key} {m : Nat} (h : RdS T e ts m) : RdE T e ts m:=fun at_ r d b hv hr hd=>by
 have hs:=h.full at_ r d b hv (hr.mono (by simp)) (hr.mono (by simp)) hd
 obtain ⟨k,r',rfl,hk⟩:=hr
 have hv2:=hv.app
 refine Ev.step (Ev.of_eq (g:=fun n=>(ref1_Reader_sum n ⟨T,(at_ : Int),false,b⟩ (d : Int)).bind fun r1=>(ref1_Reader_sign n r1.2 x_3c).bind fun r5=>bif r5 then (ref1_Reader_sum n (Reader.mk r1.2.T (wr (r1.2.At + 1)) r1.2.Fail r1.2.Bad) (d : Int)).bind fun r7=>(ref1_binary n 9 r1.1 r7.1).bind fun r8=>some (r8,r7.2) else
  (ref1_Reader_sign n r1.2 x_3d3d).bind fun r6=>bif r6 then (ref1_Reader_sum n (Reader.mk r1.2.T (wr (r1.2.At + 1)) r1.2.Fail r1.2.Bad) (d : Int)).bind fun r7=>(ref1_binary n 10 r1.1 r7.1).bind fun r8=>some (r8,r7.2) else some (r1.1,r1.2)) (fun n=>by simp only [ref1_Reader_expr,jn]; rfl) (Ev.bind hs ?_))
 refine Ev.of_eq (g:=fun n=>some (e,⟨T,((at_ + ts.length : Nat) : Int),false,b⟩)) (fun n=>?_) (Ev.ret _)
 simp only [sign_k hv2,hk x_3c (by simp),hk x_3d3d (by simp),Option.bind_some,cond_false]
theorem RdF.mono {e : Expr} {ts : List Key} {m m' : Nat} (h : RdF T e ts m) (hm : m ≤ m') : RdF T e ts m':=fun at_ r d b hv hd=>h at_ r d b hv (by omega)
theorem RdT.mono {e : Expr} {ts : List Key} {m m' : Nat} (h : RdT T e ts m) (hm : m ≤ m') : RdT T e ts m':=fun at_ r d b X hv hd=>h at_ r d b X hv (by omega)
theorem RdS.mono {e : Expr} {ts : List Key} {m m' : Nat} (h : RdS T e ts m) (hm : m ≤ m') : RdS T e ts m':=fun at_ r d b X hv hr hd=>h at_ r d b X hv hr (by omega)
theorem num_k (g : GoodT T) (m : Int) (j : Nat) : RdF T ⟨1,m,b0,[]⟩ [(2,dg m,m)] j:=fun at_ r d b hv hd=>by
 obtain ⟨⟨p,h1⟩,h2,_⟩:=Vw.cons hv
 refine Ev.step (Ev.of_eq (g:=fun n=>some (⟨1,m,b0,[]⟩,⟨T,((at_ + 1 : Nat) : Int),false,b⟩)) (fun n=>?_) (Ev.ret _))
 simp only [ref1_Reader_factor,cond_false,h1,Option.bind_some,wrT g h2]
 rfl
theorem nam_k (g : GoodT T) (w : ByteArray) (hw : NoKw w) (j : Nat) : RdF T ⟨2,0,w,[]⟩ [(1,w,0)] j:=fun at_ r d b hv hd=>by
 obtain ⟨⟨p,h1⟩,h2,_⟩:=Vw.cons hv
 have e2 : ((1 : Int) == 2) = false:=rfl
 have e1 : ((1 : Int) == 1) = true:=rfl
 have hs : ∀ n u,ref1_Reader_sign n ⟨T,(at_ : Int),false,b⟩ u = some false:=fun n u=>sign_k hv b u n
 refine Ev.step (Ev.of_eq (g:=fun n=>(ref1_Keyword n w).bind fun r5=>bif !r5 then some (⟨2,0,w,[]⟩,⟨T,((at_ + 1 : Nat) : Int),false,b⟩) else (ref1_Reader_fail n ⟨T,(at_ : Int),false,b⟩).bind fun r15=>some (⟨0,0,b0,[]⟩,r15)) (fun n=>?_) (Ev.bind hw (Ev.yes rfl (Ev.ret _))))
 simp only [ref1_Reader_factor,cond_false,cond_true,h1,Option.bind_some,wrT g h2,e2,e1,jn,hs]
theorem wr1 (d : Nat) (h : d ≤ 100) : wr ((d : Int) + 1) = ((d + 1 : Nat) : Int):=by rw [wr_of (by omega)]; rfl
theorem neg_k (g : GoodT T) {x : Expr} {tx : List Key} {j : Nat} (hx : RdF T x tx j) (hj : 2 ≤ j) : RdF T ⟨3,0,b0,[x]⟩ ((3,x_2d,0) :: tx) (j + 1):=fun at_ r d b hv hd=>by
 obtain ⟨⟨p,h1⟩,h2,h3⟩:=Vw.cons (r:=tx ++ r) hv
 have e2 : ((3 : Int) == 2) = false:=rfl
 have e1 : ((3 : Int) == 1) = false:=rfl
 have s1 : ∀ n,ref1_Reader_sign n ⟨T,(at_ : Int),false,b⟩ x_2d = some true:=fun n=>sign_k (r:=tx ++ r) hv b x_2d n
 have d8 : decide ((d : Int) < 8) = true:=decide_eq_true (by omega)
 have k1:=hx (at_ + 1) r (d + 1) b h3 (by omega)
 refine Ev.step (Ev.of_eq (g:=fun n=>(ref1_Reader_factor n ⟨T,((at_ + 1 : Nat) : Int),false,b⟩ ((d + 1 : Nat) : Int)).bind fun r9=>some (⟨3,0,b0,[r9.1]⟩,r9.2)) (fun n=>?_) (Ev.bind k1 ?_))
 ·simp only [ref1_Reader_factor,cond_false,cond_true,h1,Option.bind_some,wrT g h2,e2,e1,jn,s1,d8,wr1 d (by omega)]
 ·rw [show at_ + ((3,x_2d,0) :: tx : List Key).length = at_ + 1 + tx.length by simp; omega]
  exact Ev.ret _
theorem par_k (g : GoodT T) {e : Expr} {ts : List Key} {j : Nat} (he : RdE T e ts j) (hj : 2 ≤ j) : RdF T e ((3,x_28,0) :: (ts ++ [(3,x_29,0)])) (j + 1):=fun at_ r d b hv hd=>by
 have hv' : Vw T at_ ((3,x_28,0) :: (ts ++ ((3,x_29,0) :: r))):=by simpa using hv
 obtain ⟨⟨p,h1⟩,h2,h3⟩:=Vw.cons hv'
 have e2 : ((3 : Int) == 2) = false:=rfl
 have e1 : ((3 : Int) == 1) = false:=rfl
 have s1 : ∀ n,ref1_Reader_sign n ⟨T,(at_ : Int),false,b⟩ x_2d = some false:=fun n=>sign_k hv' b x_2d n
 have s2 : ∀ n,ref1_Reader_sign n ⟨T,(at_ : Int),false,b⟩ x_28 = some true:=fun n=>sign_k hv' b x_28 n
 have d8 : decide ((d : Int) < 8) = true:=decide_eq_true (by omega)
 have k1:=he (at_ + 1) ((3,x_29,0) :: r) (d + 1) b h3 ⟨_,_,rfl,by
  intro w hw
  simp only [List.mem_cons,List.not_mem_nil,or_false] at hw
  rcases hw with rfl | rfl | rfl | rfl | rfl | rfl | rfl <;> rfl⟩ (by omega)
 have k2:=must_k g (Vw.app h3) b
 refine Ev.step (Ev.of_eq (g:=fun n=>(ref1_Reader_expr n ⟨T,((at_ + 1 : Nat) : Int),false,b⟩ ((d + 1 : Nat) : Int)).bind fun r13=>(ref1_Reader_must n r13.2 x_29).bind fun r14=>some (r13.1,r14)) (fun n=>?_) (Ev.bind k1 ?_))
 ·simp only [ref1_Reader_factor,cond_false,cond_true,h1,Option.bind_some,wrT g h2,e2,e1,jn,s1,s2,d8,wr1 d (by omega)]
 ·simp only [k2,Option.bind_some]
  rw [show at_ + ((3,x_28,0) :: (ts ++ [(3,x_29,0)]) : List Key).length = at_ + 1 + ts.length + 1 by simp; omega]
  exact Ev.ret _
theorem term_step (g : GoodT T) {at_ : Nat} {k : Int} (h6 : 6 ≤ k) (h8 : k ≤ 8) {x y : Expr} {ty r : List Key} {j d : Nat} {b : Int} (hv : Vw T at_ ((3,sgn k,0) :: (ty ++ r))) (hy : RdF T y ty j) (hd : d + j ≤ 10) {X : Expr × Reader}
  (hX : ∀ a0 r1,Ev (fun n=>ref1_Reader_term_L0 n a0 (d : Int) r1 J0 ⟨T,((at_ + 1 + ty.length : Nat) : Int),false,b⟩ b0 ⟨k,0,b0,[x,y]⟩) X) (a0 : Reader) (r1 : Expr × Reader) : Ev (fun n=>ref1_Reader_term_L0 n a0 (d : Int) r1 J0 ⟨T,(at_ : Int),false,b⟩ b0 x) X:=by
 obtain ⟨_,h2,h3⟩:=Vw.cons hv
 have k1:=hy (at_ + 1) r d b h3 hd
 refine Ev.step (Ev.of_eq (g:=fun n=>(ref1_Reader_factor n ⟨T,((at_ + 1 : Nat) : Int),false,b⟩ (d : Int)).bind fun r15=>ref1_Reader_term_L0 n a0 (d : Int) r1 J0 r15.2 b0 ⟨k,0,b0,[x,r15.1]⟩) (fun n=>?_) (Ev.bind k1 (hX a0 r1)))
 have : k = 6 ∨ k = 7 ∨ k = 8:=by omega
 rcases this with rfl | rfl | rfl
 ·have s1 : ref1_Reader_sign n ⟨T,(at_ : Int),false,b⟩ x_2a = some true:=sign_k hv b x_2a n
  simp only [ref1_Reader_term_L0,jn,Bool.not_false,cond_true,s1,Option.bind_some,wrT g h2,ref1_binary]
  rfl
 ·have s1 : ref1_Reader_sign n ⟨T,(at_ : Int),false,b⟩ x_2a = some false:=sign_k hv b x_2a n
  have s2 : ref1_Reader_sign n ⟨T,(at_ : Int),false,b⟩ x_2f = some true:=sign_k hv b x_2f n
  simp only [ref1_Reader_term_L0,jn,Bool.not_false,cond_true,cond_false,s1,s2,Option.bind_some,wrT g h2,ref1_binary]
  rfl
 ·have s1 : ref1_Reader_sign n ⟨T,(at_ : Int),false,b⟩ x_2a = some false:=sign_k hv b x_2a n
  have s2 : ref1_Reader_sign n ⟨T,(at_ : Int),false,b⟩ x_2f = some false:=sign_k hv b x_2f n
  have s3 : ref1_Reader_sign n ⟨T,(at_ : Int),false,b⟩ x_25 = some true:=sign_k hv b x_25 n
  simp only [ref1_Reader_term_L0,jn,Bool.not_false,cond_true,cond_false,s1,s2,s3,Option.bind_some,wrT g h2,ref1_binary]
  rfl
theorem sum_step (g : GoodT T) {at_ : Nat} {k : Int} (h6 : 4 ≤ k) (h8 : k ≤ 5) {x y : Expr} {ty r : List Key} {j d : Nat} {b : Int} (hv : Vw T at_ ((3,sgn k,0) :: (ty ++ r))) (hr : Nx [x_2a,x_2f,x_25] r) (hy : RdT T y ty j) (hd : d + j ≤ 10) {X : Expr × Reader}
  (hX : ∀ a0 r1,Ev (fun n=>ref1_Reader_sum_L0 n a0 (d : Int) r1 J0 ⟨T,((at_ + 1 + ty.length : Nat) : Int),false,b⟩ b0 ⟨k,0,b0,[x,y]⟩) X) (a0 : Reader) (r1 : Expr × Reader) : Ev (fun n=>ref1_Reader_sum_L0 n a0 (d : Int) r1 J0 ⟨T,(at_ : Int),false,b⟩ b0 x) X:=by
 obtain ⟨_,h2,h3⟩:=Vw.cons hv
 have k1:=hy.full (at_ + 1) r d b h3 hr hd
 refine Ev.step (Ev.of_eq (g:=fun n=>(ref1_Reader_term n ⟨T,((at_ + 1 : Nat) : Int),false,b⟩ (d : Int)).bind fun r15=>ref1_Reader_sum_L0 n a0 (d : Int) r1 J0 r15.2 b0 ⟨k,0,b0,[x,r15.1]⟩) (fun n=>?_) (Ev.bind k1 (hX a0 r1)))
 have : k = 4 ∨ k = 5:=by omega
 rcases this with rfl | rfl
 ·have s1 : ref1_Reader_sign n ⟨T,(at_ : Int),false,b⟩ x_2b = some true:=sign_k hv b x_2b n
  simp only [ref1_Reader_sum_L0,jn,Bool.not_false,cond_true,s1,Option.bind_some,wrT g h2,ref1_binary]
  rfl
 ·have s1 : ref1_Reader_sign n ⟨T,(at_ : Int),false,b⟩ x_2b = some false:=sign_k hv b x_2b n
  have s2 : ref1_Reader_sign n ⟨T,(at_ : Int),false,b⟩ x_2d = some true:=sign_k hv b x_2d n
  simp only [ref1_Reader_sum_L0,jn,Bool.not_false,cond_true,cond_false,s1,s2,Option.bind_some,wrT g h2,ref1_binary]
  rfl
theorem nx_sgn {k : Int} (h4 : 4 ≤ k) (h10 : k ≤ 10) (r : List Key) : (k < 6 ∨ 8 < k → Nx [x_2a,x_2f,x_25] ((3,sgn k,0) :: r)) ∧ (8 < k → Nx [x_2b,x_2d] ((3,sgn k,0) :: r)):=by
 have : k = 4 ∨ k = 5 ∨ k = 6 ∨ k = 7 ∨ k = 8 ∨ k = 9 ∨ k = 10:=by omega
 have aux : ∀ (u : ByteArray) (ws : List ByteArray),(ws.all fun w=>!bytesEq u w) = true → Nx ws ((3,u,0) :: r):=fun u ws h=>⟨_,_,rfl,fun w hw=>by
  have:=List.all_eq_true.1 h w hw
  show bytesEq u w = false
  simpa using this⟩
 rcases this with rfl | rfl | rfl | rfl | rfl | rfl | rfl
 ·exact ⟨fun _=>aux x_2b _ rfl,fun h=>by omega⟩
 ·exact ⟨fun _=>aux x_2d _ rfl,fun h=>by omega⟩
 ·exact ⟨fun h=>by omega,fun h=>by omega⟩
 ·exact ⟨fun h=>by omega,fun h=>by omega⟩
 ·exact ⟨fun h=>by omega,fun h=>by omega⟩
 ·exact ⟨fun _=>aux x_3c _ rfl,fun h=>aux x_3c _ rfl⟩
 ·exact ⟨fun _=>aux x_3d3d _ rfl,fun h=>aux x_3d3d _ rfl⟩
theorem cmp_k (g : GoodT T) {k : Int} (h9 : 9 ≤ k) (h10 : k ≤ 10) {x y : Expr} {tx ty : List Key} {j : Nat} (hx : RdS T x tx j) (hy : RdS T y ty j) : RdE T ⟨k,0,b0,[x,y]⟩ (tx ++ ((3,sgn k,0) :: ty)) j:=fun at_ r d b hv hr hd=>by
 have hv' : Vw T at_ (tx ++ ((3,sgn k,0) :: (ty ++ r))):=by simpa using hv
 have nx:=nx_sgn (show 4 ≤ k by omega) h10 (ty ++ r)
 have k1:=hx.full at_ _ d b hv' (nx.1 (.inr (by omega))) (nx.2 (by omega)) hd
 have hv2:=hv'.app
 obtain ⟨_,h2,h3⟩:=Vw.cons hv2
 have k2:=hy.full (at_ + tx.length + 1) r d b h3 (hr.mono (by simp)) (hr.mono (by simp)) hd
 have e3:=wrT g h2
 refine Ev.step (Ev.of_eq (g:=fun n=>(ref1_Reader_sum n ⟨T,(at_ : Int),false,b⟩ (d : Int)).bind fun r1=>(ref1_Reader_sign n r1.2 x_3c).bind fun r5=>bif r5 then (ref1_Reader_sum n (Reader.mk r1.2.T (wr (r1.2.At + 1)) r1.2.Fail r1.2.Bad) (d : Int)).bind fun r7=>(ref1_binary n 9 r1.1 r7.1).bind fun r8=>some (r8,r7.2) else
  (ref1_Reader_sign n r1.2 x_3d3d).bind fun r6=>bif r6 then (ref1_Reader_sum n (Reader.mk r1.2.T (wr (r1.2.At + 1)) r1.2.Fail r1.2.Bad) (d : Int)).bind fun r7=>(ref1_binary n 10 r1.1 r7.1).bind fun r8=>some (r8,r7.2) else some (r1.1,r1.2)) (fun n=>by simp only [ref1_Reader_expr,jn]; rfl) (Ev.bind k1 ?_))
 rw [show at_ + (tx ++ ((3,sgn k,0) :: ty)).length = at_ + tx.length + 1 + ty.length by simp; omega]
 have : k = 9 ∨ k = 10:=by omega
 rcases this with rfl | rfl
 ·have s1 : ∀ n,ref1_Reader_sign n ⟨T,((at_ + tx.length : Nat) : Int),false,b⟩ x_3c = some true:=fun n=>sign_k hv2 b x_3c n
  simp only [s1,Option.bind_some,cond_true,e3,ref1_binary]
  exact Ev.bind k2 (Ev.ret _)
 ·have s1 : ∀ n,ref1_Reader_sign n ⟨T,((at_ + tx.length : Nat) : Int),false,b⟩ x_3c = some false:=fun n=>sign_k hv2 b x_3c n
  have s2 : ∀ n,ref1_Reader_sign n ⟨T,((at_ + tx.length : Nat) : Int),false,b⟩ x_3d3d = some true:=fun n=>sign_k hv2 b x_3d3d n
  simp only [s1,s2,Option.bind_some,cond_true,cond_false,e3,ref1_binary]
  exact Ev.bind k2 (Ev.ret _)
set_option maxRecDepth 100000 in
theorem noKw5 : ∀ w ∈ [k_x,k_y,k_z,k_a,k_t,k_c,k_d,k_l,k_k,k_m],NoKw w:=by
 intro w hw
 refine ⟨30,fun n hn=>?_⟩
 obtain ⟨m,rfl⟩ : ∃ m,n = m + 30:=⟨n - 30,by omega⟩
 simp only [List.mem_cons,List.not_mem_nil,or_false] at hw
 rcases hw with rfl | rfl | rfl | rfl | rfl | rfl | rfl | rfl | rfl | rfl <;> kernel_rfl
theorem tkS_hi {low : Int} {e : Expr} {ts : List Key} (h : low ≤ lvl e.Kind) : tkS low e ts = ts:=by
 unfold tkS; rw [decide_eq_false (by omega)]; rfl
theorem tkS_lo {low : Int} {e : Expr} {ts : List Key} (h : lvl e.Kind < low) : tkS low e ts = (3,x_28,0) :: (ts ++ [(3,x_29,0)]):=by
 unfold tkS; rw [decide_eq_true h]; rfl
theorem okE_pos : ∀ (d : Nat) (e : Expr),okE d e → 1 ≤ d
 | 0,_,h=>h.elim
 | d + 1,_,_=>by omega
theorem rdE_all (g : GoodT T) : ∀ (d : Nat) (e : Expr),okE d e → RdF T e (tkS 4 e (tkE d e)) (2 * d) ∧ RdT T e (tkS 3 e (tkE d e)) (2 * d) ∧ RdS T e (tkS 2 e (tkE d e)) (2 * d) ∧ RdE T e (tkE d e) (2 * d - 1)
 | 0,_,h=>h.elim
 | d + 1,⟨k,m,w,l⟩,h=>by
  have hk:=okE_kind _ _ h
  obtain ⟨_,l4,l5,l3⟩:=levelT k hk.1 hk.2
  have hi : ∀ j : Nat,j ≤ 2 * d + 1 → 4 ≤ lvl k → RdF T ⟨k,m,w,l⟩ (tkE (d + 1) ⟨k,m,w,l⟩) j → RdF T ⟨k,m,w,l⟩ (tkS 4 ⟨k,m,w,l⟩ (tkE (d + 1) ⟨k,m,w,l⟩)) (2 * (d + 1)) ∧ RdT T ⟨k,m,w,l⟩ (tkS 3 ⟨k,m,w,l⟩ (tkE (d + 1) ⟨k,m,w,l⟩)) (2 * (d + 1)) ∧ RdS T ⟨k,m,w,l⟩ (tkS 2 ⟨k,m,w,l⟩ (tkE (d + 1) ⟨k,m,w,l⟩)) (2 * (d + 1)) ∧ RdE T ⟨k,m,w,l⟩ (tkE (d + 1) ⟨k,m,w,l⟩) (2 * (d + 1) - 1):=by
   intro j hj hl hF
   rw [tkS_hi (show (4 : Int) ≤ lvl k from hl),tkS_hi (show (3 : Int) ≤ lvl k by omega),tkS_hi (show (2 : Int) ≤ lvl k by omega)]
   exact ⟨hF.mono (by omega),(hF.mono (by omega)).toT,((hF.mono (by omega)).toT).toS,((hF.mono (show j ≤ 2 * (d + 1) - 1 by omega)).toT).toS.toE⟩
  rcases h with ⟨h1,h2,h3,h4,h5⟩ | ⟨h1,h2,h3,h5⟩ | ⟨h1,h2,h3,x,h5,h6⟩ | ⟨h1,h1',h2,h3,x,y,h5,h6,h7⟩
  ·simp only at h1 h4 h5
   subst h1; subst h4; subst h5
   exact hi 0 (by omega) (by rw [l5 (by omega)]; decide) (num_k g m 0)
  ·simp only at h1 h2 h3 h5
   subst h1; subst h2; subst h5
   exact hi 0 (by omega) (by rw [l5 (by omega)]; decide) (nam_k g w (noKw5 w (by simp only [List.mem_cons,List.not_mem_nil,or_false] at h3 ⊢; rcases h3 with h | h | h | h | h <;> simp [h])) 0)
  ·simp only at h1 h2 h3 h5
   subst h1; subst h2; subst h3; subst h5
   have:=okE_pos d x h6
   exact hi (2 * d + 1) (by omega) (by rw [l3 rfl]; decide) (neg_k g (rdE_all g d x h6).1 (by omega))
  ·simp only at h1 h1' h2 h3 h5
   subst h2; subst h3; subst h5
   have hp:=okE_pos d x h6
   obtain ⟨fx,tx,sx,_⟩:=rdE_all g d x h6
   obtain ⟨fy,ty,sy,_⟩:=rdE_all g d y h7
   have b1 : (k == 1) = false:=beq_eq_false_iff_ne.2 (by omega)
   have b2 : (k == 2) = false:=beq_eq_false_iff_ne.2 (by omega)
   have ht : tkE (d + 1) ⟨k,0,b0,[x,y]⟩ = tkS (lft k) x (tkE d x) ++ ((3,sgn k,0) :: tkS (lvl k + 1) y (tkE d y)):=by rw [tkE,b1,b2]; rfl
   have lo : lvl k < 4:=by have:=(l4 h1).2; omega
   have fin : RdE T ⟨k,0,b0,[x,y]⟩ (tkE (d + 1) ⟨k,0,b0,[x,y]⟩) (2 * (d + 1) - 1) → RdF T ⟨k,0,b0,[x,y]⟩ ((3,x_28,0) :: (tkE (d + 1) ⟨k,0,b0,[x,y]⟩ ++ [(3,x_29,0)])) (2 * (d + 1)):=fun hE =>
    (par_k g hE (by omega)).mono (by omega)
   have k3 : k = 4 ∨ k = 5 ∨ k = 6 ∨ k = 7 ∨ k = 8 ∨ k = 9 ∨ k = 10:=by omega
   by_cases c1 : 9 ≤ k
   ·have e1 : lvl k = 1:=by rcases k3 with rfl | rfl | rfl | rfl | rfl | rfl | rfl <;> first | rfl | (exfalso; omega)
    have e2 : lft k = 2:=by unfold lft; rw [e1]; rfl
    have hE : RdE T ⟨k,0,b0,[x,y]⟩ (tkE (d + 1) ⟨k,0,b0,[x,y]⟩) (2 * (d + 1) - 1):=by
     rw [ht,e1,e2]; exact cmp_k g c1 h1' (sx.mono (by omega)) (sy.mono (by omega))
    have hF:=fin hE
    rw [tkS_lo (show lvl k < 4 from lo),tkS_lo (show lvl k < 3 by omega),tkS_lo (show lvl k < 2 by omega)]
    exact ⟨hF,hF.toT,hF.toT.toS,hE⟩
   by_cases c2 : 6 ≤ k
   ·have e1 : lvl k = 3:=by rcases k3 with rfl | rfl | rfl | rfl | rfl | rfl | rfl <;> first | rfl | (exfalso; omega)
    have e2 : lft k = 3:=by unfold lft; rw [e1]; rfl
    have hT : RdT T ⟨k,0,b0,[x,y]⟩ (tkE (d + 1) ⟨k,0,b0,[x,y]⟩) (2 * (d + 1) - 1):=by
     rw [ht,e1,e2]
     intro at_ r dd b X hv hd hX
     have hv' : Vw T at_ (tkS 3 x (tkE d x) ++ ((3,sgn k,0) :: (tkS 4 y (tkE d y) ++ r))):=by simpa using hv
     refine tx at_ _ dd b X hv' (by omega) (term_step g c2 (by omega) hv'.app fy (by omega) fun a0 r1=>?_)
     have:=hX a0 r1
     rw [show at_ + (tkS 3 x (tkE d x) ++ ((3,sgn k,0) :: tkS (3 + 1) y (tkE d y))).length = at_ + (tkS 3 x (tkE d x)).length + 1 + (tkS 4 y (tkE d y)).length by simp; omega] at this
     exact this
    have hS:=hT.toS
    have hE:=hS.toE
    rw [tkS_lo (show lvl k < 4 from lo),tkS_hi (show (3 : Int) ≤ lvl k by omega),tkS_hi (show (2 : Int) ≤ lvl k by omega)]
    exact ⟨fin hE,hT.mono (by omega),hS.mono (by omega),hE⟩
   ·have e1 : lvl k = 2:=by rcases k3 with rfl | rfl | rfl | rfl | rfl | rfl | rfl <;> first | rfl | (exfalso; omega)
    have e2 : lft k = 2:=by unfold lft; rw [e1]; rfl
    have hS : RdS T ⟨k,0,b0,[x,y]⟩ (tkE (d + 1) ⟨k,0,b0,[x,y]⟩) (2 * (d + 1) - 1):=by
     rw [ht,e1,e2]
     intro at_ r dd b X hv hr hd hX
     have hv' : Vw T at_ (tkS 2 x (tkE d x) ++ ((3,sgn k,0) :: (tkS 3 y (tkE d y) ++ r))):=by simpa using hv
     refine sx at_ _ dd b X hv' ((nx_sgn h1 h1' _).1 (.inl (by omega))) (by omega) (sum_step g h1 (by omega) hv'.app hr ty (by omega) fun a0 r1=>?_)
     have:=hX a0 r1
     rw [show at_ + (tkS 2 x (tkE d x) ++ ((3,sgn k,0) :: tkS (2 + 1) y (tkE d y))).length = at_ + (tkS 2 x (tkE d x)).length + 1 + (tkS 3 y (tkE d y)).length by simp; omega] at this
     exact this
    have hE:=hS.toE
    have hF:=fin hE
    rw [tkS_lo (show lvl k < 4 from lo),tkS_lo (show lvl k < 3 by omega),tkS_hi (show (2 : Int) ≤ lvl k by omega)]
    exact ⟨hF,hF.toT,hS.mono (by omega),hE⟩
theorem whole_k (g : GoodT T) {e : Expr} (he : okE 4 e) (s : ByteArray) {at_ : Nat} {r : List Key} (b : Int) (hv : Vw T at_ (tkE 4 e ++ r)) (hr : Nx allOps r) : Ev (fun n=>ref1_Reader_whole n ⟨T,(at_ : Int),false,b⟩ s) (e,⟨T,((at_ + (tkE 4 e).length : Nat) : Int),false,b⟩):=by
 have k1:=(rdE_all g 4 e he).2.2.2 at_ r 0 b hv hr (by omega)
 refine Ev.of_eq (g:=fun n=>(ref1_Reader_expr n ⟨T,(at_ : Int),false,b⟩ ((0 : Nat) : Int)).bind fun r7=>some (⟨r7.1.Kind,r7.1.N,r7.1.Name,r7.1.Of⟩,r7.2)) (fun n=>?_) (Ev.bind k1 (by cases e; exact Ev.ret _))
 simp only [ref1_Reader_whole,jn,Bool.not_false,cond_true]
 rfl
end
end Go.Su.Ytfmgnboplbgniaa
