/-
  Floats of natural numbers: their order, and back to whole numbers.
-/
import Derived.Test.YtepcmciljmennaaGreatZtPlRoom
import Derived.KernelRfl
import Derived.Test.YtepcmciljmennaaGreatZtDxF
import Derived.Test.YtepcmciljmennaaGreatZtDx11
namespace Go.Su.YtepcmciljmennaaGreat
open Go.Mx Go.Proofs
set_option linter.unusedVariables false
set_option linter.unusedSimpArgs false
set_option maxHeartbeats 4000000
theorem sroom_of {a b : ByteArray} (h : a.size + b.size ≤ 9223372036854775807) : sroom a b = true:=by
 unfold sroom
 have : ¬ (((a.size + b.size : Nat) : Int) > IntKind.i64.max):=by
  have e : IntKind.i64.max = 9223372036854775807:=rfl
  rw [e]; omega
 rw [decide_eq_false this]; rfl
theorem size_app (a b : ByteArray) : (a ++ b).size = a.size + b.size:=ByteArray.size_append
theorem digits_ev (k : Int) (h0 : 0 ≤ k) (h1 : k ≤ 9) : ∃ w,Ev (fun n=>ref1_Digits n k) w ∧ w.size ≤ 1:=by
 have d : decide (k < 10) = true:=decide_eq_true (by omega)
 exact ⟨_,Ev.step (Ev.of_eq (g:=fun n=>some (b2s [IntKind.u8.wrap (wr (48 + k))])) (fun n=>by simp only [ref1_Digits,d,cond_true]) (Ev.ret _)),Nat.le_of_eq rfl⟩
theorem level_ev (k : Int) : ∃ r,(∀ n,ref1_level n k = some r) ∧ (4 ≤ k → k ≤ 10 → 1 ≤ r ∧ r ≤ 3) ∧ 0 ≤ r ∧ r ≤ 5:=by
 by_cases h : 1 ≤ k ∧ k ≤ 10
 ·have : k = 1 ∨ k = 2 ∨ k = 3 ∨ k = 4 ∨ k = 5 ∨ k = 6 ∨ k = 7 ∨ k = 8 ∨ k = 9 ∨ k = 10:=by omega
  rcases this with rfl | rfl | rfl | rfl | rfl | rfl | rfl | rfl | rfl | rfl
  ·exact ⟨5,fun n=>rfl,by omega,by omega,by omega⟩
  ·exact ⟨5,fun n=>rfl,by omega,by omega,by omega⟩
  ·exact ⟨4,fun n=>rfl,by omega,by omega,by omega⟩
  ·exact ⟨2,fun n=>rfl,by omega,by omega,by omega⟩
  ·exact ⟨2,fun n=>rfl,by omega,by omega,by omega⟩
  ·exact ⟨3,fun n=>rfl,by omega,by omega,by omega⟩
  ·exact ⟨3,fun n=>rfl,by omega,by omega,by omega⟩
  ·exact ⟨3,fun n=>rfl,by omega,by omega,by omega⟩
  ·exact ⟨1,fun n=>rfl,by omega,by omega,by omega⟩
  ·exact ⟨1,fun n=>rfl,by omega,by omega,by omega⟩
 ·have b : ∀ c : Int,1 ≤ c → c ≤ 10 → (k == c) = false:=fun c h1 h2=>by simp; omega
  refine ⟨0,fun n=>?_,by omega,by omega,by omega⟩
  simp only [ref1_level,jn,b 1 (by omega) (by omega),b 2 (by omega) (by omega),b 3 (by omega) (by omega),b 4 (by omega) (by omega),b 5 (by omega) (by omega),b 6 (by omega) (by omega),b 7 (by omega) (by omega),b 8 (by omega) (by omega),b 9 (by omega) (by omega),b 10 (by omega) (by omega),cond_false]
theorem sign_w (k : Int) : ∃ w,(∀ n,ref1_sign n k = some w) ∧ w.size ≤ 2:=by
 unfold ref1_sign
 cases (k == 4) with
 | true=>exact ⟨_,fun _=>rfl,by decide⟩
 | false =>
 cases (k == 5) with
 | true=>exact ⟨_,fun _=>rfl,by decide⟩
 | false =>
 cases (k == 6) with
 | true=>exact ⟨_,fun _=>rfl,by decide⟩
 | false =>
 cases (k == 7) with
 | true=>exact ⟨_,fun _=>rfl,by decide⟩
 | false =>
 cases (k == 8) with
 | true=>exact ⟨_,fun _=>rfl,by decide⟩
 | false =>
 cases (k == 9) with
 | true=>exact ⟨_,fun _=>rfl,by decide⟩
 | false=>exact ⟨_,fun _=>rfl,by decide⟩
theorem show_ev : ∀ (d : Nat) (e : Expr),okE d e → szE e ≤ 1000000 → (∃ w,Ev (fun n=>ref1_show n e) w ∧ w.size ≤ 20 * szE e) ∧ ∀ low,∃ w,Ev (fun n=>ref1_side n e low) w ∧ w.size ≤ 20 * szE e + 2:=by
 intro d
 induction d with
 | zero=>intro e h; exact h.elim
 | succ d ih =>
  intro e h hz
  have hs : ∃ w,Ev (fun n=>ref1_show n e) w ∧ w.size ≤ 20 * szE e:=by
   obtain ⟨k,m,w,l⟩:=e
   obtain ⟨lv,hlv,hlv2,lv0,lv5⟩:=level_ev k
   rcases h with ⟨h1,h2,h3,h4,h5⟩ | ⟨h1,h2,h3,h5⟩ | ⟨h1,h2,h3,x,h5,h6⟩ | ⟨h1,h1',h2,h3,x,y,h5,h6,h7⟩ <;> simp only at h1 h2 h3 h5 <;> subst h5
   ·subst h1
    obtain ⟨w,k1,k2⟩:=digits_ev m h2 (by omega)
    refine ⟨w,Ev.step (Ev.of_eq (g:=fun n=>(ref1_Digits n m).bind fun r4=>some r4) (fun n=>?_) (Ev.bind k1 (Ev.ret _))),by rw [szE]; omega⟩
    simp only [ref1_show,hlv,Option.bind_some,jn,decide_eq_true (show m ≥ 0 from h2)]; rfl
   ·subst h1
    refine ⟨w,Ev.step (Ev.of_eq (g:=fun n=>some w) (fun n=>?_) (Ev.ret _)),?_⟩
    ·simp only [ref1_show,hlv,Option.bind_some,jn]; rfl
    ·have : w.size ≤ 1:=by
      simp only [List.mem_cons,List.not_mem_nil,or_false] at h3
      rcases h3 with rfl | rfl | rfl | rfl | rfl <;> decide
     rw [szE]; omega
   ·subst h1
    rw [szE,szEl,szEl] at hz ⊢
    obtain ⟨w',k1,k2⟩:=(ih x h6 (by omega)).2 4
    have hr : sroom x_2d w' = true:=sroom_of (by have : x_2d.size = 1:=rfl; omega)
    refine ⟨x_2d ++ w',Ev.step (Ev.of_eq (g:=fun n=>(ref1_side n x 4).bind fun r8=>bif sroom x_2d r8 then some (x_2d ++ r8) else none) (fun n=>?_) (Ev.bind k1 ?_)),?_⟩
    ·simp only [ref1_show,hlv,Option.bind_some,jn]; rfl
    ·simp only [hr,cond_true]; exact Ev.ret _
    ·rw [size_app]; have : x_2d.size = 1:=rfl; omega
   ·rw [szE,szEl,szEl,szEl] at hz ⊢
    obtain ⟨q1,q2⟩:=hlv2 h1 h1'
    have b1 : (k == 1) = false:=by simp; omega
    have b2 : (k == 2) = false:=by simp; omega
    have b3 : (k == 3) = false:=by simp; omega
    obtain ⟨wl,k1,k2⟩:=(ih x h6 (by omega)).2 (bif (lv == 1) then 2 else lv)
    obtain ⟨wr',l1,l2⟩:=(ih y h7 (by omega)).2 (wr (lv + 1))
    obtain ⟨ws,s1,s2⟩:=sign_w k
    have z1 : x_20.size = 1:=rfl
    have r1 : sroom wl x_20 = true:=sroom_of (by omega)
    have r2 : sroom (wl ++ x_20) ws = true:=sroom_of (by rw [size_app]; omega)
    have r3 : sroom ((wl ++ x_20) ++ ws) x_20 = true:=sroom_of (by rw [size_app,size_app]; omega)
    have r4 : sroom (((wl ++ x_20) ++ ws) ++ x_20) wr' = true:=sroom_of (by rw [size_app,size_app,size_app]; omega)
    have i0 : idx [x,y] 0 = some x:=rfl
    have i1 : idx [x,y] 1 = some y:=rfl
    have l2' : (ln [x,y] == 2) = true:=rfl
    refine ⟨(((wl ++ x_20) ++ ws) ++ x_20) ++ wr',Ev.step (Ev.of_eq (g:=fun n=>(ref1_side n x (bif (lv == 1) then 2 else lv)).bind fun r15=>bif sroom r15 x_20 then bif sroom (r15 ++ x_20) ws then bif sroom ((r15 ++ x_20) ++ ws) x_20 then (ref1_side n y (wr (lv + 1))).bind fun r21 =>
      bif sroom (((r15 ++ x_20) ++ ws) ++ x_20) r21 then some ((((r15 ++ x_20) ++ ws) ++ x_20) ++ r21) else none else none else none else none) (fun n=>?_) (Ev.bind k1 ?_)),?_⟩
    ·have g1 : decide (lv ≥ 1) = true:=decide_eq_true q1
     have g2 : decide (lv ≤ 3) = true:=decide_eq_true q2
     cases hc : (lv == 1) <;> simp only [ref1_show,hlv,Option.bind_some,jn,b1,b2,b3,cond_false,cond_true,g1,g2,l2',hc,i0,i1,s1]
    ·simp only [r1,r2,r3,cond_true]
     refine Ev.bind l1 ?_
     simp only [r4,cond_true]; exact Ev.ret _
    ·simp only [size_app]; omega
  refine ⟨hs,fun low=>?_⟩
  obtain ⟨w,k1,k2⟩:=hs
  obtain ⟨lv,hlv,_⟩:=level_ev e.Kind
  by_cases hc : lv < low
  ·have z1 : x_28.size = 1:=rfl
   have z2 : x_29.size = 1:=rfl
   have r1 : sroom x_28 w = true:=sroom_of (by omega)
   have r2 : sroom (x_28 ++ w) x_29 = true:=sroom_of (by rw [size_app]; omega)
   refine ⟨(x_28 ++ w) ++ x_29,Ev.step (Ev.of_eq (g:=fun n=>(ref1_show n e).bind fun r2=>bif sroom x_28 r2 then bif sroom (x_28 ++ r2) x_29 then some ((x_28 ++ r2) ++ x_29) else none else none) (fun n=>?_) (Ev.bind k1 ?_)),by simp only [size_app]; omega⟩
   ·simp only [ref1_side,hlv,Option.bind_some,decide_eq_true hc,cond_true]
   ·simp only [r1,r2,cond_true]; exact Ev.ret _
  ·refine ⟨w,Ev.step (Ev.of_eq (g:=fun n=>(ref1_show n e).bind fun r5=>some r5) (fun n=>?_) (Ev.bind k1 (Ev.ret _))),by omega⟩
   simp only [ref1_side,hlv,Option.bind_some,decide_eq_false hc,cond_false]
theorem tabs_ev : ∀ m : Nat,m ≤ 100000 → ∃ w,Ev (fun n=>ref1_tabs n (m : Int)) w ∧ w.size = m
 | 0,_=>⟨b0,Ev.step (Ev.of_eq (g:=fun n=>some b0) (fun n=>by simp only [ref1_tabs]; rfl) (Ev.ret _)),rfl⟩
 | m + 1,h=>by
  obtain ⟨w,k1,k2⟩:=tabs_ev m (by omega)
  have d : decide (((m + 1 : Nat) : Int) ≤ 0) = false:=decide_eq_false (by omega)
  have e : wr (((m + 1 : Nat) : Int) - 1) = (m : Int):=by rw [wr_of (by omega)]; omega
  have z : x_09.size = 1:=rfl
  have r : sroom x_09 w = true:=sroom_of (by omega)
  refine ⟨x_09 ++ w,Ev.step (Ev.of_eq (g:=fun n=>(ref1_tabs n (m : Int)).bind fun r1=>bif sroom x_09 r1 then some (x_09 ++ r1) else none) (fun n=>?_) (Ev.bind k1 ?_)),by rw [size_app]; omega⟩
  ·simp only [ref1_tabs,d,cond_false,e]
  ·simp only [r,cond_true]; exact Ev.ret _
theorem lines_ev : (∀ s : Stmt,∀ d m : Nat,okS d s → m + wt s ≤ 2000 → (∃ w,Ev (fun n=>ref1_lines n s.Body ((m + 1 : Nat) : Int)) w ∧ w.size ≤ 1000 * wtl s.Body) ∧ ∃ w,Ev (fun n=>ref1_lines n s.Else ((m + 1 : Nat) : Int)) w ∧ w.size ≤ 1000 * wtl s.Else) ∧
  ∀ l : List Stmt,∀ (d m : Nat) (in_ : ByteArray) (pre : List Stmt) (acc : ByteArray),okSl d l → m + wtl l ≤ 2000 → in_.size = m → (pre ++ l).length ≤ 2000 → acc.size + 1000 * wtl l ≤ 100000000 → ∃ w,Ev (fun n=>ref1_lines_L0 n (pre ++ l) (m : Int) in_ acc pre.length) w ∧ w.size ≤ acc.size + 1000 * wtl l:=by
 have wlen : ∀ l : List Stmt,l.length ≤ wtl l:=by
  intro l
  induction l with
  | nil=>simp
  | cons s r ih=>cases s; rw [List.length_cons,wtl,wt]; omega
 have blk : ∀ l : List Stmt,(∀ (d m : Nat) (in_ : ByteArray) (pre : List Stmt) (acc : ByteArray),okSl d l → m + wtl l ≤ 2000 → in_.size = m → (pre ++ l).length ≤ 2000 → acc.size + 1000 * wtl l ≤ 100000000 → ∃ w,Ev (fun n=>ref1_lines_L0 n (pre ++ l) (m : Int) in_ acc pre.length) w ∧ w.size ≤ acc.size + 1000 * wtl l) →
   ∀ d m : Nat,okSl d l → m + wtl l ≤ 2000 → ∃ w,Ev (fun n=>ref1_lines n l (m : Int)) w ∧ w.size ≤ 1000 * wtl l:=by
  intro l ih d m h1 h2
  obtain ⟨t,k1,k2⟩:=tabs_ev m (by omega)
  obtain ⟨w,l1,l2⟩:=ih d m t [] b0 h1 h2 k2 (by have:=wlen l; simp; omega) (by have : b0.size = 0:=rfl; omega)
  have z : b0.size = 0:=rfl
  exact ⟨w,Ev.step (Ev.of_eq (g:=fun n=>(ref1_tabs n (m : Int)).bind fun r1=>ref1_lines_L0 n l (m : Int) r1 b0 0) (fun n=>by simp only [ref1_lines]) (Ev.bind k1 l1)),by omega⟩
 refine stmt_ind ?_ ?_ ?_
 ·intro k w v m e b l a ihb ihl d q h hq
  rw [okS] at h
  rw [wt] at hq
  exact ⟨blk b ihb _ (q + 1) h.2.2.2.1 (by omega),blk l ihl _ (q + 1) h.2.2.2.2 (by omega)⟩
 ·intro d m in_ pre acc _ _ _ _ _
  exact ⟨acc,Ev.step (Ev.of_eq (g:=fun n=>some acc) (fun n=>by simp only [ref1_lines_L0,List.append_nil,ix_ge,cond_false]) (Ev.ret _)),by simp [wtl]⟩
 ·intro s r ihs ihr d m in_ pre acc h h2 h3 h4 h5
  rw [okSl] at h
  rw [wtl] at h2 h5
  have hp : pre.length + 1 ≤ 2000:=by simp at h4; omega
  have hsub:=ihs d m h.1 (by omega)
  have hw:=ix_wr pre s (by omega)
  have hws : 10 ≤ wt s ∧ wt s = 10 + 2 * (wtl s.Body + wtl s.Else):=by cases s; rw [wt]; simp
  obtain ⟨⟨wb,hb1,hb2⟩,wl,hl1,hl2⟩:=hsub
  have zn : x_0a.size = 1:=rfl
  obtain ⟨FF,hFF⟩ : ∃ FF : Nat → ByteArray → Option ByteArray,∀ n line,FF n line = bif sroom acc in_ then bif sroom (acc ++ in_) line then bif sroom ((acc ++ in_) ++ line) x_0a then ref1_lines_L0 n (pre ++ s :: r) (m : Int) in_ (((acc ++ in_) ++ line) ++ x_0a) (wr ((pre.length : Int) + 1)) else none else none else none:=⟨_,fun _ _=>rfl⟩

  have fin : ∀ line : ByteArray,line.size ≤ 1000 * (wtl s.Body + wtl s.Else) + 2 * m + 1000 → ∃ w,Ev (fun n=>FF n line) w ∧ w.size ≤ acc.size + 1000 * (wt s + wtl r):=by
   intro line hline
   have r1 : sroom acc in_ = true:=sroom_of (by omega)
   have r2 : sroom (acc ++ in_) line = true:=sroom_of (by rw [size_app]; omega)
   have r3 : sroom ((acc ++ in_) ++ line) x_0a = true:=sroom_of (by rw [size_app,size_app]; omega)
   obtain ⟨w,k1,k2⟩:=ihr d m in_ (pre ++ [s]) (((acc ++ in_) ++ line) ++ x_0a) h.2 (by omega) h3 (by rw [← ix_cons]; exact h4) (by simp only [size_app]; omega)
   refine ⟨w,?_,by simp only [size_app] at k2; omega⟩
   simp only [hFF,r1,r2,r3,cond_true,hw]
   rw [ix_cons]; exact k1
  rw [wtl]
  have nm : ∀ w ∈ [k_x,k_y,k_z,k_a,k_t],w.size ≤ 1:=by
   intro w hw
   simp only [List.mem_cons,List.not_mem_nil,or_false] at hw
   rcases hw with rfl | rfl | rfl | rfl | rfl <;> decide
  have nc : ∀ w ∈ [k_c,k_d],w.size ≤ 1:=by
   intro w hw
   simp only [List.mem_cons,List.not_mem_nil,or_false] at hw
   rcases hw with rfl | rfl <;> decide
  have nl : ∀ w ∈ [k_l,k_k],w.size ≤ 1:=by
   intro w hw
   simp only [List.mem_cons,List.not_mem_nil,or_false] at hw
   rcases hw with rfl | rfl <;> decide
  have zm : k_m.size = 1:=rfl
  have z20 : x_20.size = 1:=rfl
  have z7d : x_7d.size = 1:=rfl
  have ze : x_203d20.size = 3:=rfl
  have zlk : x_6c6f636b20.size = 5:=rfl
  have zul : x_756e6c6f636b20.size = 7:=rfl
  have zsd : x_73656e6420.size = 5:=rfl
  have zrc : x_7265637620.size = 5:=rfl
  have zpr : x_7072696e7420.size = 6:=rfl
  have zgo : x_676f746f20.size = 5:=rfl
  have zlb : x_6c6162656c20.size = 6:=rfl
  have zif : x_696620.size = 3:=rfl
  have zop : x_207b0a.size = 3:=rfl
  have zel : x_20656c7365207b0a.size = 8:=rfl
  have zrp : x_72657065617420.size = 7:=rfl
  obtain ⟨k,w,v,mm,e,b,l,a⟩:=s
  obtain ⟨hH,_,hzE,_,_⟩:=(show okS d ⟨k,w,v,mm,e,b,l,a⟩ from h.1)
  simp only at hb1 hb2 hl1 hl2 fin hws
  have lift : ∀ (G : Nat → Option ByteArray),(∃ w,Ev G w ∧ w.size ≤ acc.size + 1000 * (wt ⟨k,w,v,mm,e,b,l,a⟩ + wtl r)) → (∀ n,ref1_lines_L0 (n + 1) (pre ++ ⟨k,w,v,mm,e,b,l,a⟩ :: r) (m : Int) in_ acc pre.length = G n) → ∃ w',Ev (fun n=>ref1_lines_L0 n (pre ++ ⟨k,w,v,mm,e,b,l,a⟩ :: r) (m : Int) in_ acc pre.length) w' ∧ w'.size ≤ acc.size + 1000 * (wt ⟨k,w,v,mm,e,b,l,a⟩ + wtl r) :=
   fun G ⟨w',k1,k2⟩ hG=>⟨w',Ev.step (Ev.of_eq hG k1),k2⟩
  cases hH
  case assign =>
   have he : okE 4 e:=by assumption
   have hw' : w ∈ [k_x,k_y,k_z,k_a,k_t]:=by assumption
   obtain ⟨⟨t,t1,t2⟩,_⟩:=show_ev 4 e he (by omega)
   have:=nm w hw'
   obtain ⟨w',f1,f2⟩:=fin ((w ++ x_203d20) ++ t) (by simp only [size_app]; omega)
   refine lift (fun n=>(ref1_show n e).bind fun r9=>bif sroom (w ++ x_203d20) r9 then FF n ((w ++ x_203d20) ++ r9) else none) ⟨w',Ev.bind t1 ?_,f2⟩ fun n=>?_
   ·simp only [show sroom (w ++ x_203d20) t = true from sroom_of (by simp only [size_app]; omega),cond_true]; exact f1
   ·simp only [ref1_lines_L0,ix_lt,cond_true,ix_get,Option.bind_some,jn,show sroom w x_203d20 = true from sroom_of (by omega),hFF]; try rfl
  case lock =>
   obtain ⟨w',f1,f2⟩:=fin (x_6c6f636b20 ++ k_m) (by simp only [size_app]; omega)
   refine lift (fun n=>FF n (x_6c6f636b20 ++ k_m)) ⟨w',f1,f2⟩ fun n=>?_
   simp only [ref1_lines_L0,ix_lt,cond_true,ix_get,Option.bind_some,jn,show sroom x_6c6f636b20 k_m = true from sroom_of (by omega),hFF]; try rfl
  case unlock =>
   obtain ⟨w',f1,f2⟩:=fin (x_756e6c6f636b20 ++ k_m) (by simp only [size_app]; omega)
   refine lift (fun n=>FF n (x_756e6c6f636b20 ++ k_m)) ⟨w',f1,f2⟩ fun n=>?_
   simp only [ref1_lines_L0,ix_lt,cond_true,ix_get,Option.bind_some,jn,show sroom x_756e6c6f636b20 k_m = true from sroom_of (by omega),hFF]; try rfl
  case send =>
   have he : okE 4 e:=by assumption
   have hw' : w ∈ [k_c,k_d]:=by assumption
   obtain ⟨⟨t,t1,t2⟩,_⟩:=show_ev 4 e he (by omega)
   have:=nc w hw'
   obtain ⟨w',f1,f2⟩:=fin (((x_73656e6420 ++ w) ++ x_20) ++ t) (by simp only [size_app]; omega)
   refine lift (fun n=>(ref1_show n e).bind fun r9=>bif sroom ((x_73656e6420 ++ w) ++ x_20) r9 then FF n (((x_73656e6420 ++ w) ++ x_20) ++ r9) else none) ⟨w',Ev.bind t1 ?_,f2⟩ fun n=>?_
   ·simp only [show sroom ((x_73656e6420 ++ w) ++ x_20) t = true from sroom_of (by simp only [size_app]; omega),cond_true]; exact f1
   ·simp only [ref1_lines_L0,ix_lt,cond_true,ix_get,Option.bind_some,jn,show sroom x_73656e6420 w = true from sroom_of (by omega),show sroom (x_73656e6420 ++ w) x_20 = true from sroom_of (by simp only [size_app]; omega),hFF]; try rfl
  case recv =>
   have hw' : w ∈ [k_c,k_d]:=by assumption
   have hv : v ∈ [k_x,k_y,k_z,k_a,k_t]:=by assumption
   have:=nc w hw'
   have:=nm v hv
   obtain ⟨w',f1,f2⟩:=fin (((x_7265637620 ++ w) ++ x_20) ++ v) (by simp only [size_app]; omega)
   refine lift (fun n=>FF n (((x_7265637620 ++ w) ++ x_20) ++ v)) ⟨w',f1,f2⟩ fun n=>?_
   simp only [ref1_lines_L0,ix_lt,cond_true,ix_get,Option.bind_some,jn,show sroom x_7265637620 w = true from sroom_of (by omega),show sroom (x_7265637620 ++ w) x_20 = true from sroom_of (by simp only [size_app]; omega),show sroom ((x_7265637620 ++ w) ++ x_20) v = true from sroom_of (by simp only [size_app]; omega),hFF]; try rfl
  case print =>
   have he : okE 4 e:=by assumption
   obtain ⟨⟨t,t1,t2⟩,_⟩:=show_ev 4 e he (by omega)
   obtain ⟨w',f1,f2⟩:=fin (x_7072696e7420 ++ t) (by simp only [size_app]; omega)
   refine lift (fun n=>(ref1_show n e).bind fun r9=>bif sroom x_7072696e7420 r9 then FF n (x_7072696e7420 ++ r9) else none) ⟨w',Ev.bind t1 ?_,f2⟩ fun n=>?_
   ·simp only [show sroom x_7072696e7420 t = true from sroom_of (by omega),cond_true]; exact f1
   ·simp only [ref1_lines_L0,ix_lt,cond_true,ix_get,Option.bind_some,jn,hFF]; try rfl
  case goto =>
   have hw' : w ∈ [k_l,k_k]:=by assumption
   have:=nl w hw'
   obtain ⟨w',f1,f2⟩:=fin (x_676f746f20 ++ w) (by simp only [size_app]; omega)
   refine lift (fun n=>FF n (x_676f746f20 ++ w)) ⟨w',f1,f2⟩ fun n=>?_
   simp only [ref1_lines_L0,ix_lt,cond_true,ix_get,Option.bind_some,jn,show sroom x_676f746f20 w = true from sroom_of (by omega),hFF]; try rfl
  case label =>
   have hw' : w ∈ [k_l,k_k]:=by assumption
   have:=nl w hw'
   obtain ⟨w',f1,f2⟩:=fin (x_6c6162656c20 ++ w) (by simp only [size_app]; omega)
   refine lift (fun n=>FF n (x_6c6162656c20 ++ w)) ⟨w',f1,f2⟩ fun n=>?_
   simp only [ref1_lines_L0,ix_lt,cond_true,ix_get,Option.bind_some,jn,show sroom x_6c6162656c20 w = true from sroom_of (by omega),hFF]; try rfl
  case rep =>
   have q0 : 0 ≤ mm:=by assumption
   have q1 : mm ≤ 2:=by assumption
   obtain ⟨t,t1,t2⟩:=digits_ev mm q0 (by omega)
   have hm1 : wr ((m : Int) + 1) = ((m + 1 : Nat) : Int):=by rw [wr_of (by omega)]; rfl
   obtain ⟨w',f1,f2⟩:=fin (((((x_72657065617420 ++ t) ++ x_207b0a) ++ wb) ++ in_) ++ x_7d) (by simp only [size_app]; omega)
   refine lift (fun n=>(ref1_Digits n mm).bind fun r36=>bif sroom x_72657065617420 r36 then bif sroom (x_72657065617420 ++ r36) x_207b0a then (ref1_lines n b ((m + 1 : Nat) : Int)).bind fun r39=>bif sroom ((x_72657065617420 ++ r36) ++ x_207b0a) r39 then bif sroom (((x_72657065617420 ++ r36) ++ x_207b0a) ++ r39) in_ then bif sroom ((((x_72657065617420 ++ r36) ++ x_207b0a) ++ r39) ++ in_) x_7d then
    FF n (((((x_72657065617420 ++ r36) ++ x_207b0a) ++ r39) ++ in_) ++ x_7d) else none else none else none else none else none) ⟨w',Ev.bind t1 ?_,f2⟩ fun n=>?_
   ·simp only [show sroom x_72657065617420 t = true from sroom_of (by omega),show sroom (x_72657065617420 ++ t) x_207b0a = true from sroom_of (by simp only [size_app]; omega),cond_true]
    refine Ev.bind hb1 ?_
    simp only [show sroom ((x_72657065617420 ++ t) ++ x_207b0a) wb = true from sroom_of (by simp only [size_app]; omega),show sroom (((x_72657065617420 ++ t) ++ x_207b0a) ++ wb) in_ = true from sroom_of (by simp only [size_app]; omega),show sroom ((((x_72657065617420 ++ t) ++ x_207b0a) ++ wb) ++ in_) x_7d = true from sroom_of (by simp only [size_app]; omega),cond_true]
    exact f1
   ·simp only [ref1_lines_L0,ix_lt,cond_true,ix_get,Option.bind_some,jn,hm1,decide_eq_true (show mm ≥ 0 from q0),hFF]; try rfl
  case cond =>
   have he : okE 4 e:=by assumption
   obtain ⟨⟨t,t1,t2⟩,_⟩:=show_ev 4 e he (by omega)
   have hm1 : wr ((m : Int) + 1) = ((m + 1 : Nat) : Int):=by rw [wr_of (by omega)]; rfl
   have s1 : sroom x_696620 t = true:=sroom_of (by omega)
   have s2 : sroom (x_696620 ++ t) x_207b0a = true:=sroom_of (by simp only [size_app]; omega)
   have s3 : sroom ((x_696620 ++ t) ++ x_207b0a) wb = true:=sroom_of (by simp only [size_app]; omega)
   have s4 : sroom (((x_696620 ++ t) ++ x_207b0a) ++ wb) in_ = true:=sroom_of (by simp only [size_app]; omega)
   have s5 : sroom ((((x_696620 ++ t) ++ x_207b0a) ++ wb) ++ in_) x_7d = true:=sroom_of (by simp only [size_app]; omega)
   cases hE : decide (ln l > 0)
   ·obtain ⟨w',f1,f2⟩:=fin (((((x_696620 ++ t) ++ x_207b0a) ++ wb) ++ in_) ++ x_7d) (by simp only [size_app]; omega)
    refine lift (fun n=>(ref1_show n e).bind fun r24=>bif sroom x_696620 r24 then bif sroom (x_696620 ++ r24) x_207b0a then (ref1_lines n b ((m + 1 : Nat) : Int)).bind fun r27=>bif sroom ((x_696620 ++ r24) ++ x_207b0a) r27 then bif sroom (((x_696620 ++ r24) ++ x_207b0a) ++ r27) in_ then bif sroom ((((x_696620 ++ r24) ++ x_207b0a) ++ r27) ++ in_) x_7d then
     FF n (((((x_696620 ++ r24) ++ x_207b0a) ++ r27) ++ in_) ++ x_7d) else none else none else none else none else none) ⟨w',Ev.bind t1 ?_,f2⟩ fun n=>?_
    ·simp only [s1,s2,cond_true]
     refine Ev.bind hb1 ?_
     simp only [s3,s4,s5,cond_true]
     exact f1
    ·simp only [ref1_lines_L0,ix_lt,cond_true,ix_get,Option.bind_some,jn,hm1,hE,cond_false,hFF]; try rfl
   ·have s6 : sroom (((((x_696620 ++ t) ++ x_207b0a) ++ wb) ++ in_) ++ x_7d) x_20656c7365207b0a = true:=sroom_of (by simp only [size_app]; omega)
    have s7 : sroom ((((((x_696620 ++ t) ++ x_207b0a) ++ wb) ++ in_) ++ x_7d) ++ x_20656c7365207b0a) wl = true:=sroom_of (by simp only [size_app]; omega)
    have s8 : sroom (((((((x_696620 ++ t) ++ x_207b0a) ++ wb) ++ in_) ++ x_7d) ++ x_20656c7365207b0a) ++ wl) in_ = true:=sroom_of (by simp only [size_app]; omega)
    have s9 : sroom ((((((((x_696620 ++ t) ++ x_207b0a) ++ wb) ++ in_) ++ x_7d) ++ x_20656c7365207b0a) ++ wl) ++ in_) x_7d = true:=sroom_of (by simp only [size_app]; omega)
    obtain ⟨w',f1,f2⟩:=fin (((((((((x_696620 ++ t) ++ x_207b0a) ++ wb) ++ in_) ++ x_7d) ++ x_20656c7365207b0a) ++ wl) ++ in_) ++ x_7d) (by simp only [size_app]; omega)
    refine lift (fun n=>(ref1_show n e).bind fun r24=>bif sroom x_696620 r24 then bif sroom (x_696620 ++ r24) x_207b0a then (ref1_lines n b ((m + 1 : Nat) : Int)).bind fun r27=>bif sroom ((x_696620 ++ r24) ++ x_207b0a) r27 then bif sroom (((x_696620 ++ r24) ++ x_207b0a) ++ r27) in_ then bif sroom ((((x_696620 ++ r24) ++ x_207b0a) ++ r27) ++ in_) x_7d then
     bif sroom (((((x_696620 ++ r24) ++ x_207b0a) ++ r27) ++ in_) ++ x_7d) x_20656c7365207b0a then (ref1_lines n l ((m + 1 : Nat) : Int)).bind fun r32=>bif sroom ((((((x_696620 ++ r24) ++ x_207b0a) ++ r27) ++ in_) ++ x_7d) ++ x_20656c7365207b0a) r32 then bif sroom (((((((x_696620 ++ r24) ++ x_207b0a) ++ r27) ++ in_) ++ x_7d) ++ x_20656c7365207b0a) ++ r32) in_ then bif sroom ((((((((x_696620 ++ r24) ++ x_207b0a) ++ r27) ++ in_) ++ x_7d) ++ x_20656c7365207b0a) ++ r32) ++ in_) x_7d then
     FF n (((((((((x_696620 ++ r24) ++ x_207b0a) ++ r27) ++ in_) ++ x_7d) ++ x_20656c7365207b0a) ++ r32) ++ in_) ++ x_7d) else none else none else none else none else none else none else none else none else none) ⟨w',Ev.bind t1 ?_,f2⟩ fun n=>?_
    ·simp only [s1,s2,cond_true]
     refine Ev.bind hb1 ?_
     simp only [s3,s4,s5,s6,cond_true]
     refine Ev.bind hl1 ?_
     simp only [s7,s8,s9,cond_true]
     exact f1
    ·simp only [ref1_lines_L0,ix_lt,cond_true,ix_get,Option.bind_some,jn,hm1,hE,hFF]; try rfl
theorem linesB_ev (l : List Stmt) (d m : Nat) (h : okSl d l) (hw : m + wtl l ≤ 2000) : ∃ w,Ev (fun n=>ref1_lines n l (m : Int)) w ∧ w.size ≤ 1000 * wtl l:=by
 have wlen : ∀ l : List Stmt,l.length ≤ wtl l:=by
  intro l
  induction l with
  | nil=>simp
  | cons s r ih=>cases s; rw [List.length_cons,wtl,wt]; omega
 obtain ⟨t,k1,k2⟩:=tabs_ev m (by omega)
 have z : b0.size = 0:=rfl
 obtain ⟨w,l1,l2⟩:=lines_ev.2 l d m t [] b0 h hw k2 (by have:=wlen l; simp; omega) (by omega)
 exact ⟨w,Ev.step (Ev.of_eq (g:=fun n=>(ref1_tabs n (m : Int)).bind fun r1=>ref1_lines_L0 n l (m : Int) r1 b0 0) (fun n=>by simp only [ref1_lines]) (Ev.bind k1 l1)),by omega⟩
def okSD (d : Decl) : Prop:=1 ≤ d.Kind ∧ d.Kind ≤ 6 ∧ 0 ≤ d.N ∧ d.N ≤ 9 ∧ d.Name.size ≤ 100
theorem Show_L1 (D : List Decl) (ts : List (List Stmt)) (w2 : ByteArray) (i3 : Int) (hts : ∀ t ∈ ts,∃ d,okSl d t ∧ wtl t ≤ 1900) (hn : ts.length ≤ 100) : ∀ (l pre : List (List Stmt)) (acc : ByteArray),ts = pre ++ l → acc.size + 3000000 * l.length ≤ 1000000000000 → ∃ w,Ev (fun n=>ref1_Show_L1 n ⟨D,ts⟩ w2 i3 acc pre.length) w
 | [],pre,acc,e,h=>by
  rw [List.append_nil] at e
  have l1 : decide ((pre.length : Int) < ln ts) = false:=by rw [e]; exact ix_ge _
  exact ⟨acc,Ev.step (Ev.of_eq (g:=fun n=>some acc) (fun n=>by simp only [ref1_Show_L1,l1,cond_false]) (Ev.ret _))⟩
 | t :: r,pre,acc,e,h=>by
  have hp : pre.length + 1 ≤ 100:=by have:=congrArg List.length e; simp at this; omega
  have l1 : decide ((pre.length : Int) < ln ts) = true:=by rw [e]; exact ix_lt _ _ _
  have l2 : idx ts (pre.length : Int) = some t:=by rw [e]; exact ix_get _ _ _
  obtain ⟨d,h1,h2⟩:=hts t (by rw [e]; simp)
  obtain ⟨wl,k1,k2⟩:=linesB_ev t d 1 h1 (by omega)
  rw [List.length_cons] at h
  have z1 : x_676f207b0a.size = 5:=rfl
  have z2 : x_7d0a.size = 2:=rfl
  have r1 : sroom acc x_676f207b0a = true:=sroom_of (by omega)
  have r2 : sroom (acc ++ x_676f207b0a) wl = true:=sroom_of (by rw [size_app]; omega)
  have r3 : sroom ((acc ++ x_676f207b0a) ++ wl) x_7d0a = true:=sroom_of (by rw [size_app,size_app]; omega)
  obtain ⟨w,m1⟩:=Show_L1 D ts w2 i3 hts hn r (pre ++ [t]) (((acc ++ x_676f207b0a) ++ wl) ++ x_7d0a) (by rw [e]; exact ix_cons _ _ _) (by simp only [size_app]; omega)
  refine ⟨w,Ev.step (Ev.of_eq (g:=fun n=>(ref1_lines n t ((1 : Nat) : Int)).bind fun r21=>bif sroom (acc ++ x_676f207b0a) r21 then bif sroom ((acc ++ x_676f207b0a) ++ r21) x_7d0a then ref1_Show_L1 n ⟨D,ts⟩ w2 i3 (((acc ++ x_676f207b0a) ++ r21) ++ x_7d0a) ((pre ++ [t]).length) else none else none) (fun n=>?_) (Ev.bind k1 ?_))⟩
  ·simp only [ref1_Show_L1,l1,l2,r1,cond_true,Option.bind_some]
   rw [ix_wr pre t (by omega)]; rfl
  ·simp only [r2,r3,cond_true]; exact m1
theorem Show_L0 (D : List Decl) (ts : List (List Stmt)) (hD : ∀ d ∈ D,okSD d) (hDn : D.length ≤ 1000) (hts : ∀ t ∈ ts,∃ d,okSl d t ∧ wtl t ≤ 1900) (hn : ts.length ≤ 100) : ∀ (l pre : List Decl) (acc : ByteArray),D = pre ++ l → acc.size + 1000 * l.length ≤ 100000000 → ∃ w,Ev (fun n=>ref1_Show_L0 n ⟨D,ts⟩ acc pre.length) w
 | [],pre,acc,e,h=>by
  rw [List.append_nil] at e
  have l1 : decide ((pre.length : Int) < ln D) = false:=by rw [e]; exact ix_ge _
  obtain ⟨w,m1⟩:=Show_L1 D ts acc (pre.length : Int) hts hn ts [] acc rfl (by simp at h; omega)
  exact ⟨w,Ev.step (Ev.of_eq (fun n=>by simp only [ref1_Show_L0,l1,cond_false]; rfl) m1)⟩
 | t :: r,pre,acc,e,h=>by
  have hp : pre.length + 1 ≤ 1000:=by have:=congrArg List.length e; simp at this; omega
  have l1 : decide ((pre.length : Int) < ln D) = true:=by rw [e]; exact ix_lt _ _ _
  have l2 : idx D (pre.length : Int) = some t:=by rw [e]; exact ix_get _ _ _
  obtain ⟨a1,a2,a3,a4,a5⟩:=hD t (by rw [e]; simp)
  rw [List.length_cons] at h
  have hw:=ix_wr pre t (by omega)
  obtain ⟨x7,hx7,z7⟩ : ∃ x7,idx [b0,k_var,k_wide,k_atomic,k_local,k_mutex,k_chan] t.Kind = some x7 ∧ x7.size ≤ 6:=by
   have : t.Kind = 1 ∨ t.Kind = 2 ∨ t.Kind = 3 ∨ t.Kind = 4 ∨ t.Kind = 5 ∨ t.Kind = 6:=by omega
   rcases this with h | h | h | h | h | h <;> rw [h] <;> exact ⟨_,rfl,by decide⟩
  have d1 : decide (t.Kind < 1) = false:=decide_eq_false (by omega)
  have d2 : decide (t.Kind > 6) = false:=decide_eq_false (by omega)
  have z20 : x_20.size = 1:=rfl
  have z0a : x_0a.size = 1:=rfl
  have r1 : sroom acc x7 = true:=sroom_of (by omega)
  have r2 : sroom (acc ++ x7) x_20 = true:=sroom_of (by rw [size_app]; omega)
  have r3 : sroom ((acc ++ x7) ++ x_20) t.Name = true:=sroom_of (by rw [size_app,size_app]; omega)
  by_cases h6 : t.Kind = 6
  ·have e6 : (t.Kind == 6) = true:=by simpa using h6
   have e7 : decide (t.N < 0) = false:=decide_eq_false (by omega)
   obtain ⟨wd,k1,k2⟩:=digits_ev t.N a3 a4
   have r4 : sroom (((acc ++ x7) ++ x_20) ++ t.Name) x_20 = true:=sroom_of (by simp only [size_app]; omega)
   have r5 : sroom ((((acc ++ x7) ++ x_20) ++ t.Name) ++ x_20) wd = true:=sroom_of (by simp only [size_app]; omega)
   have r6 : sroom (((((acc ++ x7) ++ x_20) ++ t.Name) ++ x_20) ++ wd) x_0a = true:=sroom_of (by simp only [size_app]; omega)
   obtain ⟨w,m1⟩:=Show_L0 D ts hD hDn hts hn r (pre ++ [t]) ((((((acc ++ x7) ++ x_20) ++ t.Name) ++ x_20) ++ wd) ++ x_0a) (by rw [e]; exact ix_cons _ _ _) (by simp only [size_app]; omega)
   refine ⟨w,Ev.step (Ev.of_eq (g:=fun n=>(ref1_Digits n t.N).bind fun r14=>bif sroom ((((acc ++ x7) ++ x_20) ++ t.Name) ++ x_20) r14 then bif sroom (((((acc ++ x7) ++ x_20) ++ t.Name) ++ x_20) ++ r14) x_0a then ref1_Show_L0 n ⟨D,ts⟩ ((((((acc ++ x7) ++ x_20) ++ t.Name) ++ x_20) ++ r14) ++ x_0a) ((pre ++ [t]).length) else none else none) (fun n=>?_) (Ev.bind k1 ?_))⟩
   ·simp only [ref1_Show_L0,l1,l2,jn,d1,d2,cond_true,cond_false,Option.bind_some,hx7,r1,r2,r3,e6,e7,r4,hw]
   ·simp only [r5,r6,cond_true]; exact m1
  ·have e6 : (t.Kind == 6) = false:=by simpa using h6
   have r6 : sroom (((acc ++ x7) ++ x_20) ++ t.Name) x_0a = true:=sroom_of (by simp only [size_app]; omega)
   obtain ⟨w,m1⟩:=Show_L0 D ts hD hDn hts hn r (pre ++ [t]) ((((acc ++ x7) ++ x_20) ++ t.Name) ++ x_0a) (by rw [e]; exact ix_cons _ _ _) (by simp only [size_app]; omega)
   refine ⟨w,Ev.step (Ev.of_eq (fun n=>?_) m1)⟩
   simp only [ref1_Show_L0,l1,l2,jn,d1,d2,cond_true,cond_false,Option.bind_some,hx7,r1,r2,r3,e6,r6,hw]
theorem Show_ev (D : List Decl) (ts : List (List Stmt)) (hD : ∀ d ∈ D,okSD d) (hDn : D.length ≤ 1000) (hts : ∀ t ∈ ts,∃ d,okSl d t ∧ wtl t ≤ 1900) (hn : ts.length ≤ 100) : ∃ w,Ev (fun n=>ref1_Show n ⟨D,ts⟩) w:=by
 have z : b0.size = 0:=rfl
 obtain ⟨w,h⟩:=Show_L0 D ts hD hDn hts hn D [] b0 rfl (by omega)
 exact ⟨w,Ev.of_eq (fun n=>by simp only [ref1_Show]; rfl) h⟩
theorem okSD_of {D : List Decl} (h : okDecls D) : (∀ d ∈ D,okSD d) ∧ D.length ≤ 1000:=by
 obtain ⟨k0,k1,r,hk,r0,r1,rfl⟩:=h
 refine ⟨fun d hd=>?_,by simp⟩
 have zx : k_x.size = 1:=rfl
 have zy : k_y.size = 1:=rfl
 have zz : k_z.size = 1:=rfl
 have za : k_a.size = 1:=rfl
 have zt : k_t.size = 1:=rfl
 have zm : k_m.size = 1:=rfl
 have zc : k_c.size = 1:=rfl
 have zd : k_d.size = 1:=rfl
 simp only [List.mem_cons,List.not_mem_nil,or_false] at hd
 rcases hd with rfl | rfl | rfl | rfl | rfl | rfl | rfl | rfl <;> refine ⟨?_,?_,?_,?_,?_⟩ <;> simp only <;> omega
end Go.Su.YtepcmciljmennaaGreat
namespace Go.Su.YtepcmciljmennaaGreat
open Go.Mx Go.Proofs
set_option linter.unusedVariables false
set_option linter.unusedSimpArgs false
set_option maxHeartbeats 4000000
theorem f2iN : ((List.range 3001).all fun k=>f2i (FloatKind.f64.nearest (k : Nat)) == some (k : Int)) = true:=by kernel_rfl
theorem f2i_of (k : Nat) (h : k ≤ 3000) : f2i (FloatKind.f64.nearest (k : Nat)) = some (k : Int):=by
 have:=List.all_eq_true.1 f2iN k (List.mem_range.2 (by omega))
 simpa using this
theorem roomM (a b : Nat) (h : a + b ≤ 1000000) : room s_mark.i1.bytes a b = true:=room_of (by
 have : s_mark.i1.bytes = 200:=rfl
 rw [this]; omega)
theorem roomI (a b : Nat) (h : a + b ≤ 1000000) : room s_int.i1.bytes a b = true:=room_of (by
 have : s_int.i1.bytes = 8:=rfl
 rw [this]; omega)
theorem roomT (a b : Nat) (h : a + b ≤ 1000000) : room s_LStmt.i1.bytes a b = true:=room_of (by
 have : s_LStmt.i1.bytes = 24:=rfl
 rw [this]; omega)
theorem szS_eq (s : Stmt) : szS s = 1 + szE s.E + (szSl s.Body + szSl s.Else):=by cases s; rw [szS]
theorem wt_eq (s : Stmt) : wt s = 10 + 2 * (wtl s.Body + wtl s.Else):=by cases s; rw [wt]
def MkA (x : Stmt) : Prop:=∃ k : Nat,k ≤ 3000 ∧ x.At.re = FloatKind.f64.nearest (k : Int)
def MkL (l : List Stmt) : Prop:=∀ x ∈ flat l,MkA x
theorem MkL_cons {s : Stmt} {r : List Stmt} : MkL (s :: r) ↔ MkA s ∧ MkL s.Body ∧ MkL s.Else ∧ MkL r:=by
 unfold MkL
 simp only [flat,fl1_eq,List.mem_append,List.mem_cons]
 constructor
 ·intro h
  exact ⟨h s (by simp),fun x hx=>h x (by simp [hx]),fun x hx=>h x (by simp [hx]),fun x hx=>h x (by simp [hx])⟩
 ·rintro ⟨h1,h2,h3,h4⟩ x hx
  rcases hx with (rfl | hx | hx) | hx
  ·exact h1
  ·exact h2 x hx
  ·exact h3 x hx
  ·exact h4 x hx
theorem MkL_nil : MkL []:=fun x hx=>by simp [flat] at hx
theorem marked_all : (∀ s : Stmt,(∀ i : Nat,i + szSl s.Body ≤ 3000 → ∃ b' j,Ev (fun n=>hand_marked n s.Body (i : Int)) (b',((j : Nat) : Int)) ∧ MkL b' ∧ szSl b' = szSl s.Body ∧ j ≤ i + szSl s.Body) ∧
   ∀ i : Nat,i + szSl s.Else ≤ 3000 → ∃ b' j,Ev (fun n=>hand_marked n s.Else (i : Int)) (b',((j : Nat) : Int)) ∧ MkL b' ∧ szSl b' = szSl s.Else ∧ j ≤ i + szSl s.Else) ∧
  ∀ l : List Stmt,∀ (a1 : Int) (pre acc : List Stmt) (i : Nat),i + szSl l ≤ 3000 → (pre ++ l).length ≤ 1000000 → acc.length + l.length ≤ 1000000 →
   ∃ l' j,Ev (fun n=>hand_marked_L0 n (pre ++ l) a1 (i : Int) acc pre.length) (acc ++ l',((j : Nat) : Int)) ∧ MkL l' ∧ szSl l' = szSl l ∧ j ≤ i + szSl l:=by
 refine stmt_ind ?_ ?_ ?_
 ·intro k w v m e b l a hb hl
  constructor
  ·intro i hi
   have:=len_Sl b
   simp only at hi ⊢
   obtain ⟨l',j,h1,h2⟩:=hb i [] [] i hi (by simp; omega) (by simp; omega)
   exact ⟨l',j,Ev.step (Ev.of_eq (fun n=>by simp only [hand_marked]; rfl) h1),h2⟩
  ·intro i hi
   have:=len_Sl l
   simp only at hi ⊢
   obtain ⟨l',j,h1,h2⟩:=hl i [] [] i hi (by simp; omega) (by simp; omega)
   exact ⟨l',j,Ev.step (Ev.of_eq (fun n=>by simp only [hand_marked]; rfl) h1),h2⟩
 ·intro a1 pre acc i h1 h2 h3
  exact ⟨[],i,Ev.step (Ev.of_eq (g:=fun n=>some (acc,(i : Int))) (fun n=>by simp only [hand_marked_L0,List.append_nil,ix_ge,cond_false]) (by simpa using Ev.ret _)),MkL_nil,rfl,by omega⟩
 ·intro x r ihx ihr a1 pre acc i h1 h2 h3
  rw [szSl] at h1
  have hx:=szS_eq x
  have hp : pre.length + 1 ≤ 1000000:=by simp at h2; omega
  have ha : acc.length + 1 + r.length ≤ 1000000:=by simp at h3; omega
  obtain ⟨b',j1,e1,m1,z1,c1⟩:=ihx.1 (i + 1) (by omega)
  obtain ⟨l',j2,e2,m2,z2,c2⟩:=ihx.2 j1 (by omega)
  have hw : wr ((i : Int) + 1) = ((i + 1 : Nat) : Int):=by rw [wr_of (by omega)]; rfl
  obtain ⟨r',j,e3,m3,z3,c3⟩:=ihr a1 (pre ++ [x]) (acc ++ [Stmt.mk x.Kind x.Name x.Other x.N x.E b' l' (⟨FloatKind.f64.nearest (i : Int),0⟩ : Cx)]) j2 (by omega) (by rw [← ix_cons]; exact h2) (by simp; omega)
  refine ⟨Stmt.mk x.Kind x.Name x.Other x.N x.E b' l' (⟨FloatKind.f64.nearest (i : Int),0⟩ : Cx) :: r',j,?_,MkL_cons.2 ⟨⟨i,by omega,rfl⟩,m1,m2,m3⟩,by simp only [szSl,szS]; omega,by rw [szSl]; omega⟩
  refine Ev.step (Ev.of_eq (g:=fun n=>(hand_marked n x.Body ((i + 1 : Nat) : Int)).bind fun r6=>(hand_marked n x.Else r6.2).bind fun r8 =>
   bif room s_Stmt.i1.bytes acc.length [(Stmt.mk x.Kind x.Name x.Other x.N x.E r6.1 r8.1 (⟨FloatKind.f64.nearest (i : Int),0⟩ : Cx))].length then
    hand_marked_L0 n ((pre ++ [x]) ++ r) a1 r8.2 (acc ++ [(Stmt.mk x.Kind x.Name x.Other x.N x.E r6.1 r8.1 (⟨FloatKind.f64.nearest (i : Int),0⟩ : Cx))]) ((pre ++ [x]).length) else none) (fun n=>?_) (Ev.bind e1 (Ev.bind e2 (Ev.yes (room32 _ (by omega) _) (by simpa using e3)))))
  simp only [hand_marked_L0,ix_lt,cond_true,ix_get,Option.bind_some,hw]
  rw [ix_wr pre x (by omega),← ix_cons]
theorem marked_ev (l : List Stmt) (i : Nat) (h : i + szSl l ≤ 3000) : ∃ l' j,Ev (fun n=>hand_marked n l (i : Int)) (l',((j : Nat) : Int)) ∧ MkL l' ∧ szSl l' = szSl l ∧ j ≤ i + szSl l:=by
 have:=len_Sl l
 obtain ⟨l',j,h1,h2⟩:=marked_all.2 l i [] [] i h (by simp; omega) (by simp; omega)
 exact ⟨l',j,Ev.step (Ev.of_eq (fun n=>by simp only [hand_marked]; rfl) h1),h2⟩
theorem mark_L0 (D : List Decl) (ts : List (List Stmt)) : ∀ (l pre acc : List (List Stmt)) (i : Nat),ts = pre ++ l → i + szT l ≤ 3000 → ts.length ≤ 1000 → acc.length + l.length ≤ 1000 →
  ∃ l',Ev (fun n=>hand_mark_L0 n ⟨D,ts⟩ (i : Int) acc pre.length) ⟨D,acc ++ l'⟩ ∧ (∀ t ∈ l',MkL t) ∧ szT l' = szT l ∧ l'.length = l.length
 | [],pre,acc,i,e,h,h2,h3=>by
  rw [List.append_nil] at e; subst e
  exact ⟨[],Ev.step (Ev.of_eq (g:=fun n=>some ⟨D,acc⟩) (fun n=>by simp only [hand_mark_L0,ix_ge,cond_false]) (by simpa using Ev.ret _)),by simp,rfl,rfl⟩
 | t :: r,pre,acc,i,e,h,h2,h3=>by
  rw [szT] at h
  have hp : pre.length + 1 ≤ 1000:=by rw [e] at h2; simp at h2; omega
  have ha : acc.length + 1 + r.length ≤ 1000:=by simp at h3; omega
  obtain ⟨t',j,e1,m1,z1,c1⟩:=marked_ev t i (by omega)
  obtain ⟨r',e2,m2,z2,c2⟩:=mark_L0 D ts r (pre ++ [t]) (acc ++ [t']) j (by rw [e]; exact ix_cons _ _ _) (by omega) h2 (by simp; omega)
  refine ⟨t' :: r',?_,?_,by simp only [szT]; omega,by simp [c2]⟩
  ·subst e
   refine Ev.step (Ev.of_eq (g:=fun n=>(hand_marked n t (i : Int)).bind fun r5=>bif room s_LStmt.i1.bytes acc.length [r5.1].length then hand_mark_L0 n ⟨D,pre ++ t :: r⟩ r5.2 (acc ++ [r5.1]) ((pre ++ [t]).length) else none) (fun n=>?_) (Ev.bind e1 (Ev.yes (roomT _ _ (by simp; omega)) (by simpa using e2))))
   simp only [hand_mark_L0,ix_lt,cond_true,ix_get,Option.bind_some]
   rw [ix_wr pre t (by omega)]
  ·intro x hx
   rcases List.mem_cons.1 hx with rfl | hx
   ·exact m1
   ·exact m2 x hx
theorem mark_ev (D : List Decl) (ts : List (List Stmt)) (h : szT ts ≤ 3000) (h2 : ts.length ≤ 1000) : ∃ ts',Ev (fun n=>hand_mark n ⟨D,ts⟩) ⟨D,ts'⟩ ∧ (∀ t ∈ ts',MkL t) ∧ szT ts' = szT ts ∧ ts'.length = ts.length:=by
 obtain ⟨l',h1,h3⟩:=mark_L0 D ts ts [] [] 0 rfl (by omega) h2 (by simp; omega)
 exact ⟨l',Ev.of_eq (fun n=>by simp only [hand_mark]; rfl) (by simpa using h1),h3⟩
def PM (m : Mark) : Prop:=m.Block ≠ [] ∧ m.Block.length ≤ 20000 ∧ MkA m.S
theorem marks_all : (∀ s : Stmt,(∀ (a1 : List Int) (a2 a3 : Int),a1.length + szSl s.Body ≤ 10000 → MkL s.Body → ∃ ms j,Ev (fun n=>ref8_marks n s.Body a1 a2 a3) (ms,j) ∧ ms.length ≤ szSl s.Body ∧ ∀ m ∈ ms,PM m) ∧
   ∀ (a1 : List Int) (a2 a3 : Int),a1.length + szSl s.Else ≤ 10000 → MkL s.Else → ∃ ms j,Ev (fun n=>ref8_marks n s.Else a1 a2 a3) (ms,j) ∧ ms.length ≤ szSl s.Else ∧ ∀ m ∈ ms,PM m) ∧
  ∀ l : List Stmt,∀ (a1 : List Int) (a2 a3 i : Int) (here : List Int) (pre : List Stmt) (acc : List Mark),here ≠ [] → here.length + szSl l ≤ 10001 → (pre ++ l).length ≤ 100000 → acc.length + szSl l ≤ 100000 → MkL l →
   ∃ ms j,Ev (fun n=>ref8_marks_L0 n (pre ++ l) a1 a2 a3 i here acc pre.length) (acc ++ ms,j) ∧ ms.length ≤ szSl l ∧ ∀ m ∈ ms,PM m:=by
 have whole : ∀ (b : List Stmt),(∀ (a1 : List Int) (a2 a3 i : Int) (here : List Int) (pre : List Stmt) (acc : List Mark),here ≠ [] → here.length + szSl b ≤ 10001 → (pre ++ b).length ≤ 100000 → acc.length + szSl b ≤ 100000 → MkL b →
   ∃ ms j,Ev (fun n=>ref8_marks_L0 n (pre ++ b) a1 a2 a3 i here acc pre.length) (acc ++ ms,j) ∧ ms.length ≤ szSl b ∧ ∀ m ∈ ms,PM m) →
   ∀ (a1 : List Int) (a2 a3 : Int),a1.length + szSl b ≤ 10000 → MkL b → ∃ ms j,Ev (fun n=>ref8_marks n b a1 a2 a3) (ms,j) ∧ ms.length ≤ szSl b ∧ ∀ m ∈ ms,PM m:=by
  intro b hb a1 a2 a3 h hM
  have:=len_Sl b
  obtain ⟨ms,j,h1,h2⟩:=hb a1 a2 a3 (wr (a3 + 1)) (([] ++ a1) ++ [wr (a3 + 1)]) [] [] (by simp) (by simp; omega) (by simp; omega) (by simp; omega) hM
  refine ⟨ms,j,Ev.step (Ev.of_eq (fun n=>?_) h1),h2⟩
  simp only [ref8_marks,roomI ([] : List Int).length a1.length (by simp; omega),List.nil_append,roomI a1.length [wr (a3 + 1)].length (by simp; omega),cond_true]
  rfl
 refine stmt_ind ?_ ?_ ?_
 ·intro k w v m e b l a hb hl
  exact ⟨whole b hb,whole l hl⟩
 ·intro a1 a2 a3 i here pre acc h0 h1 h2 h3 hM
  exact ⟨[],i,Ev.step (Ev.of_eq (g:=fun n=>some (acc,i)) (fun n=>by simp only [ref8_marks_L0,List.append_nil,ix_ge,cond_false]) (by simpa using Ev.ret _)),by simp,by simp⟩
 ·intro x r ihx ihr a1 a2 a3 i here pre acc h0 h1 h2 h3 hM
  rw [szSl] at h1 h3
  have hx:=szS_eq x
  have hp : pre.length + 1 ≤ 100000:=by simp at h2; omega
  obtain ⟨mx,mb,me,mr⟩:=MkL_cons.1 hM
  obtain ⟨b',j1,e1,l1,p1⟩:=ihx.1 here a2 i (by omega) mb
  obtain ⟨l',j2,e2,l2,p2⟩:=ihx.2 here a2 j1 (by omega) me
  obtain ⟨r',j,e3,l3,p3⟩:=ihr a1 a2 a3 j2 here (pre ++ [x]) (((acc ++ [Mark.mk x here a2]) ++ b') ++ l') h0 (by omega) (by rw [← ix_cons]; exact h2) (by simp; omega) mr
  refine ⟨Mark.mk x here a2 :: (b' ++ (l' ++ r')),j,?_,by simp [szSl]; omega,?_⟩
  ·refine Ev.step (Ev.of_eq (g:=fun n=>(ref8_marks n x.Body here a2 i).bind fun r10=>bif room s_mark.i1.bytes (acc ++ [(Mark.mk x here a2)]).length r10.1.length then
     (ref8_marks n x.Else here a2 r10.2).bind fun r13=>bif room s_mark.i1.bytes ((acc ++ [(Mark.mk x here a2)]) ++ r10.1).length r13.1.length then
      ref8_marks_L0 n ((pre ++ [x]) ++ r) a1 a2 a3 r13.2 here (((acc ++ [(Mark.mk x here a2)]) ++ r10.1) ++ r13.1) ((pre ++ [x]).length) else none else none) (fun n=>?_) (Ev.bind e1 (Ev.yes (roomM _ _ (by simp; omega)) (Ev.bind e2 (Ev.yes (roomM _ _ (by simp; omega)) (by simpa using e3))))))
   simp only [ref8_marks_L0,ix_lt,cond_true,ix_get,Option.bind_some,roomM acc.length [Mark.mk x here a2].length (by simp; omega)]
   rw [ix_wr pre x (by omega),← ix_cons]
  ·intro m hm
   rcases List.mem_cons.1 hm with rfl | hm
   ·exact ⟨h0,by show here.length ≤ 20000; omega,mx⟩
   rcases List.mem_append.1 hm with hm | hm
   ·exact p1 m hm
   rcases List.mem_append.1 hm with hm | hm
   ·exact p2 m hm
   ·exact p3 m hm
theorem marks_ev (l : List Stmt) (a2 a3 : Int) (h : szSl l ≤ 10000) (hM : MkL l) : ∃ ms j,Ev (fun n=>ref8_marks n l [] a2 a3) (ms,j) ∧ ms.length ≤ szSl l ∧ ∀ m ∈ ms,PM m:=by
 have:=(marks_all.1 ⟨0,b0,b0,0,eN,l,[],c0⟩).1 [] a2 a3 (by simpa using h) hM
 exact this
theorem all_L0 (D : List Decl) (ts : List (List Stmt)) : ∀ (l pre : List (List Stmt)) (acc : List Mark) (i : Int),ts = pre ++ l → acc.length + szT l ≤ 10000 → ts.length ≤ 1000 → (∀ t ∈ l,MkL t) → (∀ m ∈ acc,PM m) →
  ∃ ms,Ev (fun n=>ref8_all_L0 n ⟨D,ts⟩ acc i pre.length) ms ∧ ms.length ≤ 10000 ∧ ∀ m ∈ ms,PM m
 | [],pre,acc,i,e,h,h2,hM,hA=>by
  rw [List.append_nil] at e; subst e
  exact ⟨acc,Ev.step (Ev.of_eq (g:=fun n=>some acc) (fun n=>by simp only [ref8_all_L0,ix_ge,cond_false]) (Ev.ret _)),by omega,hA⟩
 | t :: r,pre,acc,i,e,h,h2,hM,hA=>by
  rw [szT] at h
  have hp : pre.length + 1 ≤ 1000:=by rw [e] at h2; simp at h2; omega
  obtain ⟨mt,j,e1,l1,p1⟩:=marks_ev t (pre.length : Int) i (by omega) (hM t (by simp))
  obtain ⟨ms,e2,l2,p2⟩:=all_L0 D ts r (pre ++ [t]) (acc ++ mt) j (by rw [e]; exact ix_cons _ _ _) (by simp; omega) h2 (fun x hx=>hM x (by simp [hx])) (fun m hm=>by
   rcases List.mem_append.1 hm with hm | hm
   ·exact hA m hm
   ·exact p1 m hm)
  refine ⟨ms,?_,l2,p2⟩
  subst e
  refine Ev.step (Ev.of_eq (g:=fun n=>(ref8_marks n t [] (pre.length : Int) i).bind fun r5=>bif room s_mark.i1.bytes acc.length r5.1.length then ref8_all_L0 n ⟨D,pre ++ t :: r⟩ (acc ++ r5.1) r5.2 ((pre ++ [t]).length) else none) (fun n=>?_) (Ev.bind e1 (Ev.yes (roomM _ _ (by simp; omega)) e2)))
  simp only [ref8_all_L0,ix_lt,cond_true,ix_get,Option.bind_some]
  rw [ix_wr pre t (by omega)]
theorem all_ev (D : List Decl) (ts : List (List Stmt)) (h : szT ts ≤ 10000) (h2 : ts.length ≤ 1000) (hM : ∀ t ∈ ts,MkL t) : ∃ ms,Ev (fun n=>ref8_all n ⟨D,ts⟩) ms ∧ ms.length ≤ 10000 ∧ ∀ m ∈ ms,PM m:=by
 obtain ⟨ms,h1,h3⟩:=all_L0 D ts ts [] [] 0 rfl (by simpa using h) h2 hM (by simp)
 exact ⟨ms,Ev.of_eq (fun n=>by simp only [ref8_all]; rfl) h1,h3⟩
theorem inb_L0 (a0 : Int) (S : Stmt) (A : Int) : ∀ (l pre : List Int),(pre ++ l).length ≤ 1000000 → ∃ b,Ev (fun n=>ref8_within_L0 n a0 ⟨S,pre ++ l,A⟩ pre.length) b
 | [],pre,h=>⟨false,Ev.step (Ev.of_eq (g:=fun n=>some false) (fun n=>by simp only [ref8_within_L0,List.append_nil,ix_ge,cond_false]) (Ev.ret _))⟩
 | x :: r,pre,h=>by
  have hp : pre.length + 1 ≤ 1000000:=by simp at h; omega
  cases c : (x == a0)
  ·obtain ⟨b,hb⟩:=inb_L0 a0 S A r (pre ++ [x]) (by rw [← ix_cons]; exact h)
   refine ⟨b,Ev.step (Ev.of_eq (fun n=>?_) hb)⟩
   simp only [ref8_within_L0,ix_lt,ix_get,cond_true,Option.bind_some,c,cond_false]
   rw [ix_wr pre x (by omega),← ix_cons]
  ·exact ⟨true,Ev.step (Ev.of_eq (g:=fun n=>some true) (fun n=>by simp only [ref8_within_L0,ix_lt,ix_get,cond_true,Option.bind_some,c]) (Ev.ret _))⟩
theorem inb_ev (a0 : Int) (m : Mark) (h : PM m) : ∃ b,Ev (fun n=>ref8_within n a0 m) b:=by
 obtain ⟨S,B,A⟩:=m
 obtain ⟨b,hb⟩:=inb_L0 a0 S A B [] (by have:=h.2.1; simp only at this; simp; omega)
 exact ⟨b,Ev.of_eq (fun n=>by simp only [ref8_within]; rfl) hb⟩
theorem target_L0 (i : Nat) (mi : Mark) (hmi : PM mi) (b1 : Bool) : ∀ (l pre : List Mark),idx (pre ++ l) (i : Int) = some mi → (pre ++ l).length ≤ 100000 → (∀ m ∈ l,PM m) → ∃ r,Ev (fun n=>ref8_target_L0 n (pre ++ l) (i : Int) b1 pre.length) r
 | [],pre,hi,h,hP=>⟨-1,Ev.step (Ev.of_eq (g:=fun n=>some (-1)) (fun n=>by simp only [ref8_target_L0,List.append_nil,ix_ge,cond_false]) (Ev.ret _))⟩
 | x :: r,pre,hi,h,hP=>by
  have hp : pre.length + 1 ≤ 100000:=by simp at h; omega
  obtain ⟨q,hq⟩:=target_L0 i mi hmi b1 r (pre ++ [x]) (by rw [← ix_cons]; exact hi) (by rw [← ix_cons]; exact h) (fun m hm=>hP m (by simp [hm]))
  obtain ⟨B1,B2,B3⟩:=hP x (by simp)
  have hne : 0 < x.Block.length:=List.length_pos_iff.2 B1
  have hw : wr (ln x.Block - 1) = ((x.Block.length - 1 : Nat) : Int):=by
   show wr ((x.Block.length : Int) - 1) = _
   rw [wr_of (by omega)]; omega
  have hb : idx x.Block ((x.Block.length - 1 : Nat) : Int) = some (x.Block[x.Block.length - 1]'(by omega)):=idx_of (by omega) (by rw [Int.toNat_natCast]; exact List.getElem?_eq_getElem (by omega))
  obtain ⟨b,hW⟩:=inb_ev (x.Block[x.Block.length - 1]'(by omega)) mi hmi
  have base : ∀ n,ref8_target_L0 (n + 1) (pre ++ x :: r) (i : Int) b1 pre.length = jn (fun (b6 : Bool)=>bif b6 then some (pre.length : Int) else ref8_target_L0 n ((pre ++ [x]) ++ r) (i : Int) b1 ((pre ++ [x]).length)) fun J7 =>
    bif (x.S.Kind == 10) then bif bytesEq x.S.Name mi.S.Name then bif (x.At == mi.At) then (ref8_within n (x.Block[x.Block.length - 1]'(by omega)) mi).bind fun r12=>J7 r12 else J7 false else J7 false else J7 false:=by
   intro n
   simp only [ref8_target_L0,ix_lt,ix_get,cond_true,Option.bind_some,hi,hw,hb,ix_wr pre x (show pre.length + 1 ≤ 9223372036854775807 by omega)]
   rw [← ix_cons]
  cases c1 : (x.S.Kind == 10)
  ·exact ⟨q,Ev.step (Ev.of_eq (fun n=>by rw [base]; simp only [jn,c1,cond_false]) hq)⟩
  cases c2 : bytesEq x.S.Name mi.S.Name
  ·exact ⟨q,Ev.step (Ev.of_eq (fun n=>by rw [base]; simp only [jn,c1,c2,cond_false,cond_true]) hq)⟩
  cases c3 : (x.At == mi.At)
  ·exact ⟨q,Ev.step (Ev.of_eq (fun n=>by rw [base]; simp only [jn,c1,c2,c3,cond_false,cond_true]) hq)⟩
  cases b
  ·exact ⟨q,Ev.step (Ev.of_eq (fun n=>by rw [base]; simp only [jn,c1,c2,c3,cond_true]) (Ev.bind hW (g:=fun n r12=>bif r12 then some (pre.length : Int) else ref8_target_L0 n ((pre ++ [x]) ++ r) (i : Int) b1 ((pre ++ [x]).length)) (Ev.no rfl hq)))⟩
  ·exact ⟨_,Ev.step (Ev.of_eq (fun n=>by rw [base]; simp only [jn,c1,c2,c3,cond_true]) (Ev.bind hW (g:=fun n r12=>bif r12 then some (pre.length : Int) else ref8_target_L0 n ((pre ++ [x]) ++ r) (i : Int) b1 ((pre ++ [x]).length)) (Ev.yes rfl (Ev.ret _))))⟩
theorem target_ev (ms : List Mark) (i : Nat) (hi : i < ms.length) (hl : ms.length ≤ 10000) (hP : ∀ m ∈ ms,PM m) : ∃ r,Ev (fun n=>ref8_target n ms (i : Int)) r:=by
 have d1 : decide ((i : Int) < 0) = false:=decide_eq_false (by omega)
 have d2 : decide ((i : Int) ≥ ln ms) = false:=decide_eq_false (by show ¬ (i : Int) ≥ (ms.length : Int); omega)
 have i1 : idx ms (i : Int) = some ms[i]:=idx_of (by omega) (by rw [Int.toNat_natCast]; exact List.getElem?_eq_getElem hi)
 cases c : (ms[i].S.Kind != 9)
 ·have hmi:=hP _ (List.getElem_mem hi)
  have hw : wr ((i : Int) + 1) = ((ms.take (i + 1)).length : Int):=by rw [wr_of (by omega),List.length_take]; omega
  obtain ⟨r,hr⟩:=target_L0 i ms[i] hmi false (ms.drop (i + 1)) (ms.take (i + 1)) (by rw [List.take_append_drop]; exact i1) (by rw [List.take_append_drop]; omega) (fun m hm=>hP m (List.mem_of_mem_drop hm))
  refine ⟨r,Ev.of_eq (fun n=>?_) hr⟩
  simp only [ref8_target,jn,d1,d2,cond_false,i1,Option.bind_some,c,hw,List.take_append_drop]
 ·exact ⟨-1,Ev.of_eq (g:=fun n=>some (-1)) (fun n=>by simp only [ref8_target,jn,d1,d2,cond_false,i1,Option.bind_some,c,cond_true]) (Ev.ret _)⟩
def JR (r : Cx × Int) : Prop:=r.2 = 0 ∨ ∃ k : Nat,k ≤ 3000 ∧ r.1.re = FloatKind.f64.nearest (k : Int)
theorem Jumps_L1 (p : Prog) (r1 ms : List Mark) (i3 : Nat) (x4 : Mark) (b5 : Bool) (hx : PM x4) (hi : i3 ≤ ms.length) (hl : ms.length ≤ 10000)
  (next : ∃ r,Ev (fun n=>ref8_Jumps_L0 n p r1 ms (wr ((i3 : Int) + 1))) r ∧ JR r) :
  ∀ (m j : Nat),i3 - j ≤ m → j ≤ i3 → ∃ r,Ev (fun n=>ref8_Jumps_L1 n p r1 ms (i3 : Int) x4 b5 (j : Int)) r ∧ JR r
 | 0,j,h1,h2=>by
  obtain ⟨r,hr,hj⟩:=next
  have d1 : decide ((j : Int) < (i3 : Int)) = false:=decide_eq_false (by omega)
  exact ⟨r,Ev.step (Ev.of_eq (fun n=>by simp only [ref8_Jumps_L1,jn,d1,cond_false]) hr),hj⟩
 | m + 1,j,h1,h2=>by
  by_cases hj : j < i3
  ·have d1 : decide ((j : Int) < (i3 : Int)) = true:=decide_eq_true (by omega)
   have i1 : idx ms (j : Int) = some (ms[j]'(by omega)):=idx_of (by omega) (by rw [Int.toNat_natCast]; exact List.getElem?_eq_getElem (by omega))
   have e3 : wr ((j : Int) + 1) = ((j + 1 : Nat) : Int):=by rw [wr_of (by omega)]; rfl
   obtain ⟨q,hq,jq⟩:=Jumps_L1 p r1 ms i3 x4 b5 hx hi hl next m (j + 1) (by omega) (by omega)
   have bad : JR (x4.S.At,4):=.inr hx.2.2
   cases c0 : (x4.S.Kind == 10)
   ·obtain ⟨r,hr,hj⟩:=next
    exact ⟨r,Ev.step (Ev.of_eq (fun n=>by simp only [ref8_Jumps_L1,jn,d1,cond_true,c0,cond_false]) hr),hj⟩
   cases c1 : ((ms[j]'(by omega)).S.Kind == 10)
   ·exact ⟨q,Ev.step (Ev.of_eq (fun n=>by simp only [ref8_Jumps_L1,jn,d1,cond_true,c0,i1,Option.bind_some,c1,cond_false,e3]) hq),jq⟩
   cases c2 : bytesEq (ms[j]'(by omega)).S.Name x4.S.Name
   ·exact ⟨q,Ev.step (Ev.of_eq (fun n=>by simp only [ref8_Jumps_L1,jn,d1,cond_true,c0,i1,Option.bind_some,c1,c2,cond_false,e3]) hq),jq⟩
   cases c3 : ((ms[j]'(by omega)).At == x4.At)
   ·exact ⟨q,Ev.step (Ev.of_eq (fun n=>by simp only [ref8_Jumps_L1,jn,d1,cond_true,c0,i1,Option.bind_some,c1,c2,c3,cond_false,e3]) hq),jq⟩
   ·exact ⟨(x4.S.At,4),Ev.step (Ev.of_eq (g:=fun n=>some (x4.S.At,4)) (fun n=>by simp only [ref8_Jumps_L1,jn,d1,cond_true,c0,i1,Option.bind_some,c1,c2,c3]) (Ev.ret _)),bad⟩
  ·exact Jumps_L1 p r1 ms i3 x4 b5 hx hi hl next m j (by omega) (by omega)
theorem Jumps_L0 (p : Prog) (r1 ms : List Mark) (hl : ms.length ≤ 10000) (hP : ∀ m ∈ ms,PM m) : ∀ (m i : Nat),ms.length - i ≤ m → i ≤ ms.length → ∃ r,Ev (fun n=>ref8_Jumps_L0 n p r1 ms (i : Int)) r ∧ JR r
 | 0,i,h1,h2=>by
  have d1 : decide ((i : Int) < ln ms) = false:=decide_eq_false (by show ¬ (i : Int) < (ms.length : Int); omega)
  exact ⟨(c0,0),Ev.step (Ev.of_eq (g:=fun n=>some (c0,0)) (fun n=>by simp only [ref8_Jumps_L0,d1,cond_false]) (Ev.ret _)),.inl rfl⟩
 | m + 1,i,h1,h2=>by
  by_cases hi : i < ms.length
  ·have d1 : decide ((i : Int) < ln ms) = true:=decide_eq_true (by show (i : Int) < (ms.length : Int); omega)
   have i1 : idx ms (i : Int) = some ms[i]:=idx_of (by omega) (by rw [Int.toNat_natCast]; exact List.getElem?_eq_getElem hi)
   have e3 : wr ((i : Int) + 1) = ((i + 1 : Nat) : Int):=by rw [wr_of (by omega)]; rfl
   have hx:=hP _ (List.getElem_mem hi)
   have next:=Jumps_L0 p r1 ms hl hP m (i + 1) (by omega) (by omega)
   rw [← e3] at next
   have inner : ∀ b5,∃ r,Ev (fun n=>ref8_Jumps_L1 n p r1 ms (i : Int) ms[i] b5 0) r ∧ JR r:=fun b5=>Jumps_L1 p r1 ms i ms[i] b5 hx h2 hl next i 0 (by omega) (by omega)
   cases c1 : (ms[i].S.Kind == 9)
   ·obtain ⟨r,hr,hj⟩:=inner false
    exact ⟨r,Ev.step (Ev.of_eq (fun n=>by simp only [ref8_Jumps_L0,d1,cond_true,i1,Option.bind_some,jn,c1,cond_false]) hr),hj⟩
   ·obtain ⟨t,ht⟩:=target_ev ms i hi hl hP
    cases c2 : decide (t < 0)
    ·obtain ⟨r,hr,hj⟩:=inner false
     refine ⟨r,Ev.step (Ev.of_eq (g:=fun n=>(ref8_target n ms (i : Int)).bind fun r7=>bif decide (r7 < 0) then some (ms[i].S.At,4) else ref8_Jumps_L1 n p r1 ms (i : Int) ms[i] (decide (r7 < 0)) 0) (fun n=>?_) (Ev.bind ht (Ev.no c2 (by rw [c2]; exact hr)))),hj⟩
     simp only [ref8_Jumps_L0,d1,cond_true,i1,Option.bind_some,jn,c1]
    ·refine ⟨(ms[i].S.At,4),Ev.step (Ev.of_eq (g:=fun n=>(ref8_target n ms (i : Int)).bind fun r7=>bif decide (r7 < 0) then some (ms[i].S.At,4) else ref8_Jumps_L1 n p r1 ms (i : Int) ms[i] (decide (r7 < 0)) 0) (fun n=>?_) (Ev.bind ht (Ev.yes c2 (Ev.ret _)))),.inr hx.2.2⟩
     simp only [ref8_Jumps_L0,d1,cond_true,i1,Option.bind_some,jn,c1]
  ·exact Jumps_L0 p r1 ms hl hP m i (by omega) h2
theorem Jumps_ev (D : List Decl) (ts : List (List Stmt)) (h : szT ts ≤ 10000) (h2 : ts.length ≤ 1000) (hM : ∀ t ∈ ts,MkL t) : ∃ r,Ev (fun n=>ref8_Jumps n ⟨D,ts⟩) r ∧ JR r:=by
 obtain ⟨ms,e1,l1,p1⟩:=all_ev D ts h h2 hM
 obtain ⟨r,e2,j2⟩:=Jumps_L0 ⟨D,ts⟩ ms ms l1 p1 ms.length 0 (by omega) (by omega)
 exact ⟨r,Ev.of_eq (g:=fun n=>(ref8_all n ⟨D,ts⟩).bind fun r1=>ref8_Jumps_L0 n ⟨D,ts⟩ r1 r1 0) (fun n=>by simp only [ref8_Jumps]) (Ev.bind e1 e2),j2⟩
theorem okH_re {k m : Int} {w v : ByteArray} {e : Expr} {b l b' l' : List Stmt} {a : Cx} (h : okH ⟨k,w,v,m,e,b,l,a⟩) (hb : b = [] → b' = []) (hl : l = [] → l' = []) : okH ⟨k,w,v,m,e,b',l',a⟩:=by
 cases h
 case assign=>obtain rfl:=hb rfl; obtain rfl:=hl rfl; constructor <;> assumption
 case lock=>obtain rfl:=hb rfl; obtain rfl:=hl rfl; constructor
 case unlock=>obtain rfl:=hb rfl; obtain rfl:=hl rfl; constructor
 case send=>obtain rfl:=hb rfl; obtain rfl:=hl rfl; constructor <;> assumption
 case recv=>obtain rfl:=hb rfl; obtain rfl:=hl rfl; constructor <;> assumption
 case print=>obtain rfl:=hb rfl; obtain rfl:=hl rfl; constructor <;> assumption
 case cond=>constructor <;> assumption
 case rep=>obtain rfl:=hl rfl; constructor <;> assumption
 case goto=>obtain rfl:=hb rfl; obtain rfl:=hl rfl; constructor <;> assumption
 case label=>obtain rfl:=hb rfl; obtain rfl:=hl rfl; constructor <;> assumption
theorem okS_re {d : Nat} (s : Stmt) {b' l' : List Stmt} (h : okS d s) (ob : okSl (d - 1) b') (ol : okSl (d - 1) l') (hb : s.Body = [] → b' = []) (hl : s.Else = [] → l' = []) : okS d ⟨s.Kind,s.Name,s.Other,s.N,s.E,b',l',s.At⟩:=by
 cases s with
 | mk k w v m e b l a =>
  rw [okS] at h ⊢
  obtain ⟨h1,h2,h3,h4,h5⟩:=h
  exact ⟨okH_re h1 hb hl,fun h=>⟨hb (h2 h).1,hl (h2 h).2⟩,h3,ob,ol⟩
theorem cut_all (site : Int) : (∀ s : Stmt,∀ d,okS d s → wt s ≤ 100000 → (∀ i : Int,∃ b' j,Ev (fun n=>hand_cut n s.Body site i) (b',j) ∧ okSl (d - 1) b' ∧ wtl b' ≤ wtl s.Body ∧ (s.Body = [] → b' = [])) ∧
   ∀ i : Int,∃ b' j,Ev (fun n=>hand_cut n s.Else site i) (b',j) ∧ okSl (d - 1) b' ∧ wtl b' ≤ wtl s.Else ∧ (s.Else = [] → b' = [])) ∧
  ∀ l : List Stmt,∀ d,okSl d l → wtl l ≤ 100000 → ∀ (a2 : Int) (pre acc : List Stmt) (i : Int),(pre ++ l).length ≤ 1000000 → acc.length + l.length ≤ 1000000 →
   ∃ l' j,Ev (fun n=>hand_cut_L0 n (pre ++ l) site a2 i acc pre.length) (acc ++ l',j) ∧ okSl d l' ∧ wtl l' ≤ wtl l ∧ (l = [] → l' = []):=by
 refine stmt_ind ?_ ?_ ?_
 ·intro k w v m e b l a hb hl d h hw
  rw [okS] at h
  rw [wt] at hw
  obtain ⟨_,_,_,h4,h5⟩:=h
  have lb:=len_Sl b
  have ll:=len_Sl l
  have wb:=szS_wt.2 b _ h4
  have wl:=szS_wt.2 l _ h5
  constructor
  ·intro i
   obtain ⟨l',j,h1,h2⟩:=hb (d - 1) h4 (by omega) i [] [] i (by simp; omega) (by simp; omega)
   exact ⟨l',j,Ev.step (Ev.of_eq (fun n=>by simp only [hand_cut]; rfl) h1),h2⟩
  ·intro i
   obtain ⟨l',j,h1,h2⟩:=hl (d - 1) h5 (by omega) i [] [] i (by simp; omega) (by simp; omega)
   exact ⟨l',j,Ev.step (Ev.of_eq (fun n=>by simp only [hand_cut]; rfl) h1),h2⟩
 ·intro d _ _ a2 pre acc i h1 h2
  exact ⟨[],i,Ev.step (Ev.of_eq (g:=fun n=>some (acc,i)) (fun n=>by simp only [hand_cut_L0,List.append_nil,ix_ge,cond_false]) (by simpa using Ev.ret _)),by rw [okSl]; trivial,by omega,fun _=>rfl⟩
 ·intro x r ihx ihr d ho hw a2 pre acc i h1 h2
  rw [okSl] at ho
  rw [wtl] at hw
  have hp : pre.length + 1 ≤ 1000000:=by simp at h1; omega
  have ha : acc.length + 1 + r.length ≤ 1000000:=by simp at h2; omega
  obtain ⟨b',j1,e1,o1,w1,n1⟩:=(ihx d ho.1 (by omega)).1 (wr (i + 1))
  obtain ⟨l',j2,e2,o2,w2,n2⟩:=(ihx d ho.1 (by omega)).2 j1
  have ox:=okS_re x ho.1 o1 o2 n1 n2
  have wx:=wt_eq x
  cases c : (i != site)
  ·obtain ⟨r',j,e3,o3,w3,n3⟩:=ihr d ho.2 (by omega) a2 (pre ++ [x]) acc j2 (by rw [← ix_cons]; exact h1) (by omega)
   refine ⟨r',j,?_,o3,by rw [wtl]; omega,fun h=>by simp at h⟩
   refine Ev.step (Ev.of_eq (g:=fun n=>(hand_cut n x.Body site (wr (i + 1))).bind fun r9=>(hand_cut n x.Else site r9.2).bind fun r11=>hand_cut_L0 n ((pre ++ [x]) ++ r) site a2 r11.2 acc ((pre ++ [x]).length)) (fun n=>?_) (Ev.bind e1 (Ev.bind e2 e3)))
   simp only [hand_cut_L0,jn,ix_lt,cond_true,ix_get,Option.bind_some,c,cond_false]
   rw [ix_wr pre x (by omega),← ix_cons]
  ·obtain ⟨r',j,e3,o3,w3,n3⟩:=ihr d ho.2 (by omega) a2 (pre ++ [x]) (acc ++ [Stmt.mk x.Kind x.Name x.Other x.N x.E b' l' x.At]) j2 (by rw [← ix_cons]; exact h1) (by simp; omega)
   refine ⟨Stmt.mk x.Kind x.Name x.Other x.N x.E b' l' x.At :: r',j,?_,by rw [okSl]; exact ⟨ox,o3⟩,by rw [wtl,wtl,wt]; omega,fun h=>by simp at h⟩
   refine Ev.step (Ev.of_eq (g:=fun n=>(hand_cut n x.Body site (wr (i + 1))).bind fun r9=>(hand_cut n x.Else site r9.2).bind fun r11 =>
    bif room s_Stmt.i1.bytes acc.length [(Stmt.mk x.Kind x.Name x.Other x.N x.E r9.1 r11.1 x.At)].length then hand_cut_L0 n ((pre ++ [x]) ++ r) site a2 r11.2 (acc ++ [(Stmt.mk x.Kind x.Name x.Other x.N x.E r9.1 r11.1 x.At)]) ((pre ++ [x]).length) else none) (fun n=>?_) (Ev.bind e1 (Ev.bind e2 (Ev.yes (room32 _ (by omega) _) (by simpa using e3)))))
   simp only [hand_cut_L0,jn,ix_lt,cond_true,ix_get,Option.bind_some,c]
   rw [ix_wr pre x (by omega),← ix_cons]
theorem cut_ev (site : Int) (l : List Stmt) (d : Nat) (i : Int) (ho : okSl d l) (hw : wtl l ≤ 10000) : ∃ l' j,Ev (fun n=>hand_cut n l site i) (l',j) ∧ okSl d l' ∧ wtl l' ≤ wtl l:=by
 have ll:=len_Sl l
 have wl:=szS_wt.2 l _ ho
 obtain ⟨l',j,h1,h2,h3,_⟩:=(cut_all site).2 l d ho (by omega) i [] [] i (by simp; omega) (by simp; omega)
 exact ⟨l',j,Ev.step (Ev.of_eq (fun n=>by simp only [hand_cut]; rfl) h1),h2,h3⟩
theorem without_L0 (D : List Decl) (ts : List (List Stmt)) (site : Int) : ∀ (l pre acc : List (List Stmt)) (i : Int),ts = pre ++ l → ts.length ≤ 1000 → acc.length + l.length ≤ 1000 → okTs l → okTs acc →
  ∃ l',Ev (fun n=>hand_without_L0 n ⟨D,ts⟩ site i acc pre.length) ⟨D,l'⟩ ∧ okTs l' ∧ l'.length = acc.length + l.length
 | [],pre,acc,i,e,h2,h3,o1,o2=>by
  rw [List.append_nil] at e; subst e
  exact ⟨acc,Ev.step (Ev.of_eq (g:=fun n=>some ⟨D,acc⟩) (fun n=>by simp only [hand_without_L0,ix_ge,cond_false]) (Ev.ret _)),o2,by simp⟩
 | t :: r,pre,acc,i,e,h2,h3,o1,o2=>by
  have hp : pre.length + 1 ≤ 1000:=by rw [e] at h2; simp at h2; omega
  have ha : acc.length + 1 + r.length ≤ 1000:=by simp at h3; omega
  obtain ⟨ot,wt_⟩:=o1 t (by simp)
  obtain ⟨t',j,e1,p1,w1⟩:=cut_ev site t 2 i ot (by omega)
  obtain ⟨l',e2,p2,w2⟩:=without_L0 D ts site r (pre ++ [t]) (acc ++ [t']) j (by rw [e]; exact ix_cons _ _ _) h2 (by simp; omega) (fun x hx=>o1 x (by simp [hx])) (fun x hx=>by
   rcases List.mem_append.1 hx with hx | hx
   ·exact o2 x hx
   ·rw [List.mem_singleton] at hx; subst hx; exact ⟨p1,by omega⟩)
  refine ⟨l',?_,p2,by rw [w2]; simp; omega⟩
  subst e
  refine Ev.step (Ev.of_eq (g:=fun n=>(hand_cut n t site i).bind fun r5=>bif room s_LStmt.i1.bytes acc.length [r5.1].length then hand_without_L0 n ⟨D,pre ++ t :: r⟩ site r5.2 (acc ++ [r5.1]) ((pre ++ [t]).length) else none) (fun n=>?_) (Ev.bind e1 (Ev.yes (roomT _ _ (by simp; omega)) e2)))
  simp only [hand_without_L0,ix_lt,cond_true,ix_get,Option.bind_some]
  rw [ix_wr pre t (by omega)]
theorem szT_ok : ∀ ts : List (List Stmt),okTs ts → szT ts ≤ 641 * ts.length
 | [],_=>by simp [szT]
 | t :: r,h=>by
  have h1:=h t (by simp)
  have h2:=szT_ok r (fun x hx=>h x (by simp [hx]))
  have h3:=szS_wt.2 t 2 h1.1
  rw [szT,List.length_cons]; omega
theorem fixed_L0 (a0 : Prog) (D : List Decl) : ∀ (m i : Nat),40 - i ≤ m → i ≤ 40 → ∀ ts,okTs ts → ts.length ≤ 3 → ∃ ts',Ev (fun n=>hand_fixed_L0 n a0 ⟨D,ts⟩ (i : Int)) ⟨D,ts'⟩ ∧ okTs ts' ∧ ts'.length ≤ 3
 | 0,i,h1,h2,ts,ho,hl=>by
  have d1 : decide ((i : Int) < 40) = false:=decide_eq_false (by omega)
  exact ⟨[[]],Ev.step (Ev.of_eq (g:=fun n=>some ⟨D,[[]]⟩) (fun n=>by simp only [hand_fixed_L0,d1,cond_false]) (Ev.ret _)),fun t ht=>by
   rw [List.mem_singleton] at ht; subst ht
   exact ⟨by rw [okSl]; trivial,by rw [wtl]; omega⟩,by simp⟩
 | m + 1,i,h1,h2,ts,ho,hl=>by
  by_cases hi : i < 40
  ·have d1 : decide ((i : Int) < 40) = true:=decide_eq_true (by omega)
   have e3 : wr ((i : Int) + 1) = ((i + 1 : Nat) : Int):=by rw [wr_of (by omega)]; rfl
   have hz:=szT_ok ts ho
   obtain ⟨ts1,k1,k2,k3,k4⟩:=mark_ev D ts (by omega) (by omega)
   obtain ⟨r,k5,k6⟩:=Jumps_ev D ts1 (by omega) (by omega) k2
   cases c : (r.2 == 0)
   ·obtain ⟨k,hk,hr⟩ : ∃ k : Nat,k ≤ 3000 ∧ r.1.re = FloatKind.f64.nearest (k : Int):=by
     rcases k6 with h | h
     ·rw [h] at c; cases c
     ·exact h
    have hf : f2i r.1.re = some (k : Int):=by rw [hr]; exact f2i_of k hk
    obtain ⟨ts2,k7,k8,k9⟩:=without_L0 D ts (k : Int) ts [] [] 0 rfl (by omega) (by simp; omega) ho (fun t ht=>by simp at ht)
    have hwo : Ev (fun n=>hand_without n ⟨D,ts⟩ (k : Int)) ⟨D,ts2⟩:=Ev.of_eq (fun n=>by simp only [hand_without]; rfl) k7
    obtain ⟨ts3,q1,q2⟩:=fixed_L0 a0 D m (i + 1) (by omega) (by omega) ts2 k8 (by rw [k9]; simpa using hl)
    refine ⟨ts3,Ev.step (Ev.of_eq (g:=fun n=>(hand_mark n ⟨D,ts⟩).bind fun r3=>(ref8_Jumps n r3).bind fun r4=>bif (r4.2 == 0) then some ⟨D,ts⟩ else (f2i r4.1.re).bind fun x5=>(hand_without n ⟨D,ts⟩ x5).bind fun r6=>hand_fixed_L0 n a0 r6 ((i + 1 : Nat) : Int)) (fun n=>?_) (Ev.bind k1 (Ev.bind k5 (Ev.no c (Ev.opt hf (Ev.bind hwo q1)))))),q2⟩
    simp only [hand_fixed_L0,d1,cond_true,e3]
   ·refine ⟨ts,Ev.step (Ev.of_eq (g:=fun n=>(hand_mark n ⟨D,ts⟩).bind fun r3=>(ref8_Jumps n r3).bind fun r4=>bif (r4.2 == 0) then some ⟨D,ts⟩ else (f2i r4.1.re).bind fun x5=>(hand_without n ⟨D,ts⟩ x5).bind fun r6=>hand_fixed_L0 n a0 r6 ((i + 1 : Nat) : Int)) (fun n=>?_) (Ev.bind k1 (Ev.bind k5 (Ev.yes c (Ev.ret _))))),ho,hl⟩
    simp only [hand_fixed_L0,d1,cond_true,e3]
  ·exact fixed_L0 a0 D m i (by omega) h2 ts ho hl
theorem Good_ev (how : Int) (a b c : List Act) (most : Int) (hm : most ≤ 100) : ∃ w,Ev (fun n=>hand_Good n how a b c most) w:=by
 obtain ⟨D,ts,hp,oD,ots,hlen⟩:=prog_ev how a b c most hm
 obtain ⟨ts',hf,ots',hlen'⟩:=fixed_L0 ⟨D,ts⟩ D 40 0 (by omega) (by omega) ts ots (by omega)
 obtain ⟨oSD,oSn⟩:=okSD_of oD
 obtain ⟨w,hw⟩:=Show_ev D ts' oSD oSn (fun t ht=>⟨2,(ots' t ht).1,by have:=(ots' t ht).2; omega⟩) (by omega)
 have hfx : Ev (fun n=>hand_fixed n ⟨D,ts⟩) ⟨D,ts'⟩:=Ev.of_eq (fun n=>by simp only [hand_fixed]; rfl) hf
 exact ⟨w,Ev.of_eq (g:=fun n=>(hand_Prog n how a b c most).bind fun r1=>(hand_fixed n r1).bind fun r2=>(ref1_Show n r2).bind fun r3=>some r3) (fun n=>by simp only [hand_Good]) (Ev.bind hp (Ev.bind hfx (Ev.bind hw (Ev.ret _))))⟩
end Go.Su.YtepcmciljmennaaGreat
namespace Go.Mx
open Ieee Go
set_option linter.unusedVariables false
theorem ord_self (r : Nat) (h : r < 2 ^ 53) : (FloatKind.f64.format.order (FloatKind.f64.nearest (r : Int)) (FloatKind.f64.nearest (r : Int)) == some .eq) = true:=by
 rw [near_eq]
 obtain ⟨m,p,hp,hr,_⟩:=read_nat r h
 have : FloatKind.f64.format.order (double.nearest false r 0) (double.nearest false r 0) = some .eq:=by
  show (double.read _).order (double.read _) = _
  rw [hr]
  simp [Datum.order]
 rw [this]; rfl
end Go.Mx
