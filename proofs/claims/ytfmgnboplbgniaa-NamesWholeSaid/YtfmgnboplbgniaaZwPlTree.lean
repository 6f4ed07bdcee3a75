/-
  Programs as trees: copies, lists of all statements, threads.
-/
import Derived.Test.YtfmgnboplbgniaaZwPlIx
namespace Go.Su.Ytfmgnboplbgniaa
open Go.Mx Go.Proofs
set_option linter.unusedVariables false
set_option linter.unusedSimpArgs false
set_option maxHeartbeats 4000000
theorem idxS_of (s : ByteArray) (i : Nat) (h : i < s.size) : ∃ x,idxS s (i : Int) = some x ∧ 0 ≤ x ∧ x ≤ 255:=by
 refine ⟨(s[i].toNat : Int),?_,by omega,by have:=s[i].toNat_lt; omega⟩
 unfold idxS
 have h1 : decide ((i : Int) < 0) = false:=decide_eq_false (by omega)
 rw [h1,cond_false,Int.toNat_natCast,getElem?_pos s i h]; rfl
theorem ssub_of (s : ByteArray) (a b : Nat) (h1 : a ≤ b) (h2 : b ≤ s.size) : ∃ w,ssub s (a : Int) (b : Int) = some w ∧ w.size = b - a:=by
 refine ⟨exS s a b,?_,?_⟩
 ·unfold ssub
  have : (decide ((0 : Int) ≤ a) && decide ((a : Int) ≤ b) && decide ((b : Int) ≤ s.size)) = true:=by simp; omega
  rw [this]; simp
 ·rw [exS_eq,ByteArray.size_extract]; omega
theorem letter_ev (x : Int) : ∃ b,∀ n,ref1_letter n x = some b:=by
 unfold ref1_letter jn
 cases decide (x ≥ 97)
 ·exact ⟨false,fun _=>rfl⟩
 ·exact ⟨decide (x ≤ 122),fun _=>rfl⟩
theorem digit_ev (x : Int) : ∃ b,∀ n,ref1_digit n x = some b:=by
 unfold ref1_digit jn
 cases decide (x ≥ 48)
 ·exact ⟨false,fun _=>rfl⟩
 ·exact ⟨decide (x ≤ 57),fun _=>rfl⟩
theorem number_L0 (s : ByteArray) (hs : s.size ≤ 6000) : ∀ (j i : Nat) (v : Int),s.size - i ≤ j → i ≤ s.size → 0 ≤ v → v ≤ 9223372036854775807 → ∃ r b,Ev (fun n=>ref1_number_L0 n s v (i : Int)) (r,b) ∧ 0 ≤ r:=by
 intro j
 induction j with
 | zero =>
  intro i v hj hi h0 h1
  have hlt : decide ((i : Int) < (s.size : Int)) = false:=decide_eq_false (by omega)
  cases hb : bytesEq s b0
  ·have hsz : 0 < s.size:=by
    rcases Nat.eq_zero_or_pos s.size with h | h
    ·have : s = b0:=by
      cases s with | mk a=>cases a with | mk l =>
      cases l with
      | nil=>rfl
      | cons x r=>simp [ByteArray.size] at h
     rw [this] at hb; simp [bytesEq_eq] at hb
    ·exact h
   obtain ⟨x,hx,_⟩:=idxS_of s 0 hsz
   have hx' : idxS s 0 = some x:=hx
   cases hq : (x != 48)
   ·exact ⟨v,bytesEq s x_30,Ev.step (Ev.of_eq (g:=fun n=>some (v,bytesEq s x_30)) (fun n=>by simp only [ref1_number_L0,hlt,cond_false,jn,hb,Bool.not_false,cond_true,hx',Option.bind_some,hq]) (Ev.ret _)),h0⟩
   ·exact ⟨v,true,Ev.step (Ev.of_eq (g:=fun n=>some (v,true)) (fun n=>by simp only [ref1_number_L0,hlt,cond_false,jn,hb,Bool.not_false,cond_true,hx',Option.bind_some,hq]) (Ev.ret _)),h0⟩
  ·exact ⟨v,false,Ev.step (Ev.of_eq (g:=fun n=>some (v,false)) (fun n=>by simp only [ref1_number_L0,hlt,cond_false,jn,hb,Bool.not_true]) (Ev.ret _)),h0⟩
 | succ j ih =>
  intro i v hj hi h0 h1
  by_cases hlt : i < s.size
  ·have d1 : decide ((i : Int) < (s.size : Int)) = true:=decide_eq_true (by omega)
   obtain ⟨x,hx,x0,x1⟩:=idxS_of s i hlt
   have hd0 : 0 ≤ IntKind.u8.wrap (x - 48) ∧ IntKind.u8.wrap (x - 48) ≤ 255:=by
    simp only [IntKind.wrap,IntKind.bits,IntKind.signed,Bool.false_and,Bool.false_eq_true,if_false]
    omega
   have hw : wr (IntKind.u8.wrap (x - 48)) = IntKind.u8.wrap (x - 48):=wr_of (by omega)
   generalize hdef : IntKind.u8.wrap (x - 48) = d at hd0 hw
   have hw2 : wr (9223372036854775807 - d) = 9223372036854775807 - d:=wr_of (by omega)
   have ht : (9223372036854775807 - d).tdiv 10 = (9223372036854775807 - d) / 10:=Int.tdiv_eq_ediv_of_nonneg (by omega)
   have hw3 : wr ((9223372036854775807 - d) / 10) = (9223372036854775807 - d) / 10:=wr_of (by omega)
   by_cases hbig : v > (9223372036854775807 - d) / 10
   ·refine ⟨0,false,Ev.step (Ev.of_eq (g:=fun n=>some (0,false)) (fun n=>?_) (Ev.ret _)),Int.le_refl _⟩
    simp only [ref1_number_L0,d1,cond_true,hx,Option.bind_some,hdef,hw,hw2,ht,hw3,decide_eq_true hbig]
   ·have hv : 10 * v + d ≤ 9223372036854775807:=by omega
    obtain ⟨r,b,k1,k2⟩:=ih (i + 1) (10 * v + d) (by omega) (by omega) (by omega) hv
    refine ⟨r,b,Ev.step (Ev.of_eq (fun n=>?_) k1),k2⟩
    have e1 : wr (10 * v) = 10 * v:=wr_of (by omega)
    have e2 : wr (10 * v + d) = 10 * v + d:=wr_of (by omega)
    have e3 : wr ((i : Int) + 1) = ((i + 1 : Nat) : Int):=by rw [wr_of (by omega)]; rfl
    simp only [ref1_number_L0,d1,cond_true,hx,Option.bind_some,hdef,hw,hw2,ht,hw3,decide_eq_false hbig,cond_false,e1,e2,e3]
  ·obtain ⟨r,b,k1,k2⟩ : ∃ r b,Ev (fun n=>ref1_number_L0 n s v (i : Int)) (r,b) ∧ 0 ≤ r:=by
    have : s.size - i ≤ j:=by omega
    exact ih i v this hi h0 h1
   exact ⟨r,b,k1,k2⟩
theorem number_ev (s : ByteArray) (hs : s.size ≤ 6000) : ∃ r b,Ev (fun n=>ref1_number n s) (r,b) ∧ 0 ≤ r:=by
 obtain ⟨r,b,k1,k2⟩:=number_L0 s hs s.size 0 0 (by omega) (by omega) (by omega) (by omega)
 exact ⟨r,b,Ev.of_eq (fun n=>by simp only [ref1_number]; rfl) k1,k2⟩
def okOne (s : ByteArray) (i : Nat) (t : Token) (k : Int) : Prop:=k = 0 ∨ (1 ≤ k ∧ (i : Int) + k ≤ s.size ∧ 1 ≤ t.Kind ∧ t.Kind ≤ 3 ∧ 0 ≤ t.N)
theorem one_L0 (s : ByteArray) (hs : s.size ≤ 6000) (at_ : Nat) (x1 : Int) (r2 : Bool) (w4 : ByteArray) : ∀ (j i : Nat),s.size - i ≤ j → at_ + 1 ≤ i → i ≤ s.size → ∃ t k,Ev (fun n=>ref1_one_L0 n s at_ x1 r2 w4 (i : Int)) (t,k) ∧ okOne s at_ t k:=by
 intro j
 induction j with
 | zero =>
  intro i hj h1 hi
  have hlt : decide ((i : Int) < (s.size : Int)) = false:=decide_eq_false (by omega)
  have e : wr ((i : Int) - (at_ : Int)) = (i : Int) - at_:=wr_of (by omega)
  obtain ⟨w,hw,_⟩:=ssub_of s at_ i (by omega) hi
  by_cases hb : (i : Int) - at_ > 12
  ·exact ⟨_,_,Ev.step (Ev.of_eq (g:=fun n=>some (⟨0,b0,0,0⟩,0)) (fun n=>by simp only [ref1_one_L0,jn,hlt,cond_false,e,decide_eq_true hb,cond_true]) (Ev.ret _)),.inl rfl⟩
  ·exact ⟨_,_,Ev.step (Ev.of_eq (g:=fun n=>some (⟨1,w,0,at_⟩,(i : Int) - at_)) (fun n=>by simp only [ref1_one_L0,jn,hlt,cond_false,e,decide_eq_false hb,hw,Option.bind_some]) (Ev.ret _)),.inr ⟨by omega,by omega,by simp,by simp,by simp⟩⟩
 | succ j ih =>
  intro i hj h1 hi
  have e : wr ((i : Int) - (at_ : Int)) = (i : Int) - at_:=wr_of (by omega)
  have e3 : wr ((i : Int) + 1) = ((i + 1 : Nat) : Int):=by rw [wr_of (by omega)]; rfl
  obtain ⟨w,hw,_⟩:=ssub_of s at_ i (by omega) hi
  by_cases hlt : i < s.size
  ·have d1 : decide ((i : Int) < (s.size : Int)) = true:=decide_eq_true (by omega)
   obtain ⟨x,hx,_⟩:=idxS_of s i hlt
   obtain ⟨bl,hbl⟩:=letter_ev x
   obtain ⟨bd,hbd⟩:=digit_ev x
   obtain ⟨t,k,k1,k2⟩:=ih (i + 1) (by omega) (by omega) (by omega)
   cases bl
   ·cases bd
    ·by_cases hb : (i : Int) - at_ > 12
     ·exact ⟨_,_,Ev.step (Ev.of_eq (g:=fun n=>some (⟨0,b0,0,0⟩,0)) (fun n=>by simp only [ref1_one_L0,jn,d1,cond_true,hx,Option.bind_some,hbl,hbd,cond_false,e,decide_eq_true hb]) (Ev.ret _)),.inl rfl⟩
     ·exact ⟨_,_,Ev.step (Ev.of_eq (g:=fun n=>some (⟨1,w,0,at_⟩,(i : Int) - at_)) (fun n=>by simp only [ref1_one_L0,jn,d1,cond_true,hx,Option.bind_some,hbl,hbd,cond_false,e,decide_eq_false hb,hw]) (Ev.ret _)),.inr ⟨by omega,by omega,by simp,by simp,by simp⟩⟩
    ·exact ⟨t,k,Ev.step (Ev.of_eq (fun n=>by simp only [ref1_one_L0,jn,d1,cond_true,hx,Option.bind_some,hbl,hbd,cond_false,e3]) k1),k2⟩
   ·exact ⟨t,k,Ev.step (Ev.of_eq (fun n=>by simp only [ref1_one_L0,jn,d1,cond_true,hx,Option.bind_some,hbl,e3]) k1),k2⟩
  ·exact ih i (by omega) h1 hi
theorem one_L1 (s : ByteArray) (hs : s.size ≤ 6000) (at_ : Nat) (x1 : Int) (r2 r13 : Bool) (w4 : ByteArray) : ∀ (j i : Nat),s.size - i ≤ j → at_ + 1 ≤ i → i ≤ s.size → ∃ t k,Ev (fun n=>ref1_one_L1 n s at_ x1 r2 r13 w4 (i : Int)) (t,k) ∧ okOne s at_ t k:=by
 have fin : ∀ i : Nat,at_ + 1 ≤ i → i ≤ s.size → ∃ t k,Ev (fun n=>(ssub s (at_ : Int) (i : Int)).bind fun w21=>(ref1_number n w21).bind fun r22=>bif !r22.2 then some (Token.mk 0 b0 0 0,0) else (ssub s (at_ : Int) (i : Int)).bind fun w23=>some (Token.mk 2 w23 r22.1 at_,wr ((i : Int) - at_))) (t,k) ∧ okOne s at_ t k:=by
  intro i h1 hi
  have e : wr ((i : Int) - (at_ : Int)) = (i : Int) - at_:=wr_of (by omega)
  obtain ⟨w,hw,hsz⟩:=ssub_of s at_ i (by omega) hi
  obtain ⟨r,b,k1,k2⟩:=number_ev w (by omega)
  simp only [hw,Option.bind_some,e]
  cases b
  ·exact ⟨_,_,Ev.bind k1 (Ev.ret _),.inl rfl⟩
  ·exact ⟨_,_,Ev.bind k1 (Ev.ret _),.inr ⟨by omega,by omega,by simp,by simp,by simpa using k2⟩⟩
 intro j
 induction j with
 | zero =>
  intro i hj h1 hi
  have hlt : decide ((i : Int) < (s.size : Int)) = false:=decide_eq_false (by omega)
  obtain ⟨t,k,k1,k2⟩:=fin i h1 hi
  exact ⟨t,k,Ev.step (Ev.of_eq (fun n=>by simp only [ref1_one_L1,jn,hlt,cond_false]) k1),k2⟩
 | succ j ih =>
  intro i hj h1 hi
  have e3 : wr ((i : Int) + 1) = ((i + 1 : Nat) : Int):=by rw [wr_of (by omega)]; rfl
  by_cases hlt : i < s.size
  ·have d1 : decide ((i : Int) < (s.size : Int)) = true:=decide_eq_true (by omega)
   obtain ⟨x,hx,_⟩:=idxS_of s i hlt
   obtain ⟨bd,hbd⟩:=digit_ev x
   cases bd
   ·obtain ⟨t,k,k1,k2⟩:=fin i h1 hi
    exact ⟨t,k,Ev.step (Ev.of_eq (fun n=>by simp only [ref1_one_L1,jn,d1,cond_true,hx,Option.bind_some,hbd,cond_false]) k1),k2⟩
   ·obtain ⟨t,k,k1,k2⟩:=ih (i + 1) (by omega) (by omega) (by omega)
    exact ⟨t,k,Ev.step (Ev.of_eq (fun n=>by simp only [ref1_one_L1,jn,d1,cond_true,hx,Option.bind_some,hbd,e3]) k1),k2⟩
  ·exact ih i (by omega) h1 hi
theorem one_L2 (s : ByteArray) (hs : s.size ≤ 6000) (at_ : Nat) (hat : at_ < s.size) (x1 : Int) (r2 r13 b25 : Bool) (w4 : ByteArray) : ∀ (j i : Nat),11 - i ≤ j → i ≤ 11 → ∃ t k,Ev (fun n=>ref1_one_L2 n s at_ x1 r2 r13 w4 b25 (i : Int)) (t,k) ∧ okOne s at_ t k:=by
 intro j
 induction j with
 | zero =>
  intro i hj hi
  have : i = 11:=by omega
  subst this
  exact ⟨_,_,Ev.step (Ev.of_eq (g:=fun n=>some (⟨0,b0,0,0⟩,0)) (fun n=>by simp only [ref1_one_L2]; rfl) (Ev.ret _)),.inl rfl⟩
 | succ j ih =>
  intro i hj hi
  by_cases hlt : i < 11
  ·have d1 : decide ((i : Int) < 11) = true:=decide_eq_true (by omega)
   have e3 : wr ((i : Int) + 1) = ((i + 1 : Nat) : Int):=by rw [wr_of (by omega)]; rfl
   obtain ⟨x,hx,_⟩:=idxS_of x_3d3c2b2d2a2f2528297b7d i (show i < 11 from hlt)
   have e4 : wr ((at_ : Int) + 1) = ((at_ + 1 : Nat) : Int):=by rw [wr_of (by omega)]; rfl
   obtain ⟨w,hw,_⟩:=ssub_of s at_ (at_ + 1) (by omega) (by omega)
   cases hq : (x == x1)
   ·obtain ⟨t,k,k1,k2⟩:=ih (i + 1) (by omega) (by omega)
    exact ⟨t,k,Ev.step (Ev.of_eq (fun n=>by simp only [ref1_one_L2,d1,cond_true,hx,Option.bind_some,hq,cond_false,e3]) k1),k2⟩
   ·exact ⟨_,_,Ev.step (Ev.of_eq (g:=fun n=>some (⟨3,w,0,at_⟩,1)) (fun n=>by simp only [ref1_one_L2,d1,cond_true,hx,Option.bind_some,hq,e4,hw]) (Ev.ret _)),.inr ⟨by omega,by omega,by simp,by simp,by simp⟩⟩
  ·exact ih i (by omega) hi
theorem one_ev (s : ByteArray) (hs : s.size ≤ 6000) (at_ : Nat) (h : at_ < s.size) : ∃ t k,Ev (fun n=>ref1_one n s (at_ : Int)) (t,k) ∧ okOne s at_ t k:=by
 obtain ⟨x,hx,_⟩:=idxS_of s at_ h
 obtain ⟨bl,hbl⟩:=letter_ev x
 obtain ⟨bd,hbd⟩:=digit_ev x
 have e4 : wr ((at_ : Int) + 1) = ((at_ + 1 : Nat) : Int):=by rw [wr_of (by omega)]; rfl
 cases bl
 ·cases bd
  ·have l2 : ∀ w b,∃ t k,Ev (fun n=>ref1_one_L2 n s at_ x false false w b 0) (t,k) ∧ okOne s at_ t k:=fun w b=>one_L2 s hs at_ h x false false b w 11 0 (by omega) (by omega)
   cases hq : (x == 61)
   ·obtain ⟨t,k,k1,k2⟩:=l2 b0 false
    exact ⟨t,k,Ev.of_eq (fun n=>by simp only [ref1_one,hx,Option.bind_some,hbl,hbd,cond_false,jn,hq]) k1,k2⟩
   ·by_cases hlt : at_ + 1 < s.size
    ·have d1 : decide (((at_ + 1 : Nat) : Int) < (s.size : Int)) = true:=decide_eq_true (by omega)
     obtain ⟨y,hy,_⟩:=idxS_of s (at_ + 1) hlt
     cases hz : (y == 61)
     ·obtain ⟨t,k,k1,k2⟩:=l2 b0 false
      exact ⟨t,k,Ev.of_eq (fun n=>by simp only [ref1_one,hx,Option.bind_some,hbl,hbd,cond_false,cond_true,jn,hq,e4,d1,hy,hz]) k1,k2⟩
     ·exact ⟨_,_,Ev.of_eq (g:=fun n=>some (⟨3,x_3d3d,0,at_⟩,2)) (fun n=>by simp only [ref1_one,hx,Option.bind_some,hbl,hbd,cond_false,cond_true,jn,hq,e4,d1,hy,hz]) (Ev.ret _),.inr ⟨by omega,by omega,by simp,by simp,by simp⟩⟩
    ·have d1 : decide (((at_ + 1 : Nat) : Int) < (s.size : Int)) = false:=decide_eq_false (by omega)
     obtain ⟨t,k,k1,k2⟩:=l2 b0 false
     exact ⟨t,k,Ev.of_eq (fun n=>by simp only [ref1_one,hx,Option.bind_some,hbl,hbd,cond_false,cond_true,jn,hq,e4,d1]) k1,k2⟩
  ·obtain ⟨t,k,k1,k2⟩:=one_L1 s hs at_ x false true b0 s.size (at_ + 1) (by omega) (by omega) (by omega)
   exact ⟨t,k,Ev.of_eq (fun n=>by simp only [ref1_one,hx,Option.bind_some,hbl,hbd,cond_false,cond_true,e4]) k1,k2⟩
 ·obtain ⟨t,k,k1,k2⟩:=one_L0 s hs at_ x true b0 s.size (at_ + 1) (by omega) (by omega) (by omega)
  exact ⟨t,k,Ev.of_eq (fun n=>by simp only [ref1_one,hx,Option.bind_some,hbl,cond_true,e4]) k1,k2⟩
structure GoodT (T : List Token) : Prop where
 len : T.length ≤ 6001
 pos : 0 < T.length
 last : ∀ i t,T[i]? = some t → t.Kind ≠ 4 → i + 1 < T.length
 num : ∀ t ∈ T,0 ≤ t.N
theorem toks_L (s : ByteArray) (hs : s.size ≤ 6000) : ∀ (j i : Nat),s.size - i ≤ j → i ≤ s.size → ∀ l : List Token,l.length ≤ i → (∀ t ∈ l,0 ≤ t.N) →
  (∃ T k e,Ev (fun n=>ref1_Tokens_L0 n s l (i : Int)) (T,k,e) ∧ (e ≠ 0 ∨ GoodT T)):=by
 intro j
 have fin : ∀ (i : Nat),i = s.size → ∀ l : List Token,l.length ≤ i → (∀ t ∈ l,0 ≤ t.N) → (∃ T k e,Ev (fun n=>ref1_Tokens_L0 n s l (i : Int)) (T,k,e) ∧ (e ≠ 0 ∨ GoodT T)):=by
  intro i hi l hl hn
  have hlt : decide ((i : Int) < (s.size : Int)) = false:=decide_eq_false (by omega)
  have hr : room s_Token.i1.bytes l.length [(Token.mk 4 b0 0 (i : Int))].length = true:=room_of (by
   have : s_Token.i1.bytes = 40:=rfl
   rw [this]; simp only [List.length_singleton]; omega)
  refine ⟨_,_,_,Ev.step (Ev.of_eq (g:=fun n=>some (l ++ [(Token.mk 4 b0 0 (i : Int))],0,0)) (fun n=>by simp only [ref1_Tokens_L0,hlt,cond_false,hr,cond_true]) (Ev.ret _)),.inr ⟨by simp; omega,by simp,?_,?_⟩⟩
  ·intro q t hq hk
   rcases Nat.lt_or_ge q l.length with h | h
   ·simp; omega
   ·rw [List.getElem?_append_right h] at hq
    have : q - l.length = 0:=by
     rcases Nat.eq_zero_or_pos (q - l.length) with h | h
     ·exact h
     ·rw [List.getElem?_eq_none (by simp; omega)] at hq; cases hq
    rw [this] at hq
    simp at hq; subst hq; simp at hk
  ·intro t ht
   rcases List.mem_append.1 ht with h | h
   ·exact hn t h
   ·rw [List.mem_singleton.1 h]; simp
 induction j with
 | zero=>intro i hj hi l hl hn; exact fin i (by omega) l hl hn
 | succ j ih =>
  intro i hj hi l hl hn
  by_cases hlt : i < s.size
  ·have d1 : decide ((i : Int) < (s.size : Int)) = true:=decide_eq_true (by omega)
   have e3 : wr ((i : Int) + 1) = ((i + 1 : Nat) : Int):=by rw [wr_of (by omega)]; rfl
   obtain ⟨x,hx,_⟩:=idxS_of s i hlt
   have blank : ∃ T k e,Ev (fun n=>ref1_Tokens_L0 n s l (wr ((i : Int) + 1))) (T,k,e) ∧ (e ≠ 0 ∨ GoodT T):=by
    rw [e3]; exact ih (i + 1) (by omega) (by omega) l (by omega) hn
   by_cases hbl : x = 32 ∨ x = 9 ∨ x = 10
   ·obtain ⟨T,k,e,k1,k2⟩:=blank
    refine ⟨T,k,e,Ev.step (Ev.of_eq (fun n=>?_) k1),k2⟩
    rcases hbl with h | h | h <;> subst h <;> simp only [ref1_Tokens_L0,d1,cond_true,hx,Option.bind_some,jn] <;> rfl
   have b1 : (x == 32) = false:=by simp; omega
   have b2 : (x == 9) = false:=by simp; omega
   have b3 : (x == 10) = false:=by simp; omega
   cases hc : (x == 35)
   ·
    obtain ⟨t,k,k1,k2⟩:=one_ev s hs i hlt
    rcases k2 with rfl | ⟨q1,q2,q3,q4,q5⟩
    ·exact ⟨[],(i : Int),2,Ev.step (Ev.of_eq (g:=fun n=>(ref1_one n s (i : Int)).bind fun r10=>bif (r10.2 == 0) then some ([],(i : Int),2) else bif room s_Token.i1.bytes l.length [r10.1].length then ref1_Tokens_L0 n s (l ++ [r10.1]) (wr ((i : Int) + r10.2)) else none)
      (fun n=>by simp only [ref1_Tokens_L0,d1,cond_true,hx,Option.bind_some,jn,b1,b2,b3,cond_false,hc]) (Ev.bind k1 (Ev.ret _))),.inl (by omega)⟩
    ·have hk : (k == 0) = false:=by simp; omega
     have hr : room s_Token.i1.bytes l.length [t].length = true:=room_of (by
      have : s_Token.i1.bytes = 40:=rfl
      rw [this]; simp only [List.length_singleton]; omega)
     obtain ⟨T,k',e,m1,m2⟩:=ih (i + k.toNat) (by omega) (by omega) (l ++ [t]) (by simp; omega) (by
      intro y hy
      rcases List.mem_append.1 hy with h | h
      ·exact hn y h
      ·rw [List.mem_singleton.1 h]; exact q5)
     have e5 : wr ((i : Int) + k) = ((i + k.toNat : Nat) : Int):=by rw [wr_of (by omega)]; omega
     refine ⟨T,k',e,Ev.step (Ev.of_eq (g:=fun n=>(ref1_one n s (i : Int)).bind fun r10=>bif (r10.2 == 0) then some ([],(i : Int),2) else bif room s_Token.i1.bytes l.length [r10.1].length then ref1_Tokens_L0 n s (l ++ [r10.1]) (wr ((i : Int) + r10.2)) else none)
      (fun n=>by simp only [ref1_Tokens_L0,d1,cond_true,hx,Option.bind_some,jn,b1,b2,b3,cond_false,hc]) (Ev.bind k1 ?_)),m2⟩
     simp only [hk,cond_false,hr,cond_true,e5]
     exact m1
   ·
    have hx35 : x = 35:=by simpa using hc
    have note : ∀ (q p : Nat),s.size - p ≤ q → i ≤ p → p ≤ s.size → (p = i ∨ i < p) → ∃ T k e,Ev (fun n=>ref1_Tokens_L1 n s l (i : Int) x false (p : Int)) (T,k,e) ∧ (e ≠ 0 ∨ GoodT T):=by
     intro q
     induction q with
     | zero =>
      intro p hq h1 h2 h3
      have d2 : decide ((p : Int) < (s.size : Int)) = false:=decide_eq_false (by omega)
      obtain ⟨T,k,e,m1,m2⟩:=ih p (by omega) (by omega) l (by omega) hn
      exact ⟨T,k,e,Ev.step (Ev.of_eq (fun n=>by simp only [ref1_Tokens_L1,jn,d2,cond_false]) m1),m2⟩
     | succ q ihq =>
      intro p hq h1 h2 h3
      by_cases hp : p < s.size
      ·have d2 : decide ((p : Int) < (s.size : Int)) = true:=decide_eq_true (by omega)
       have e6 : wr ((p : Int) + 1) = ((p + 1 : Nat) : Int):=by rw [wr_of (by omega)]; rfl
       obtain ⟨y,hy,_⟩:=idxS_of s p hp
       cases hn10 : (y != 10)
       ·have hpi : i < p:=by
         rcases h3 with h | h
         ·subst h
          rw [hx] at hy; cases hy
          rw [hx35] at hn10; simp at hn10
         ·exact h
        obtain ⟨T,k,e,m1,m2⟩:=ih p (by omega) (by omega) l (by omega) hn
        exact ⟨T,k,e,Ev.step (Ev.of_eq (fun n=>by simp only [ref1_Tokens_L1,jn,d2,cond_true,hy,Option.bind_some,hn10,cond_false]) m1),m2⟩
       ·obtain ⟨T,k,e,m1,m2⟩:=ihq (p + 1) (by omega) (by omega) (by omega) (.inr (by omega))
        exact ⟨T,k,e,Ev.step (Ev.of_eq (fun n=>by simp only [ref1_Tokens_L1,jn,d2,cond_true,hy,Option.bind_some,hn10,e6]) m1),m2⟩
      ·exact ihq p (by omega) h1 h2 h3
    obtain ⟨T,k,e,m1,m2⟩:=note s.size i (by omega) (Nat.le_refl _) hi (.inl rfl)
    exact ⟨T,k,e,Ev.step (Ev.of_eq (fun n=>by simp only [ref1_Tokens_L0,d1,cond_true,hx,Option.bind_some,jn,b1,b2,b3,cond_false,hc]) m1),m2⟩
  ·exact fin i (by omega) l hl hn
theorem toks_ev (s : ByteArray) : ∃ T k e,Ev (fun n=>ref1_Tokens n s) (T,k,e) ∧ (e ≠ 0 ∨ (GoodT T ∧ s.size ≤ 6000)):=by
 by_cases h : s.size ≤ 6000
 ·obtain ⟨T,k,e,k1,k2⟩:=toks_L s h s.size 0 (by omega) (by omega) [] (by simp) (by simp)
  have d : decide ((s.size : Int) > 6000) = false:=decide_eq_false (by omega)
  exact ⟨T,k,e,Ev.of_eq (fun n=>by simp only [ref1_Tokens,d,cond_false]; rfl) k1,k2.imp id fun h'=>⟨h',h⟩⟩
 ·have d : decide ((s.size : Int) > 6000) = true:=decide_eq_true (by omega)
  exact ⟨_,_,_,Ev.of_eq (g:=fun n=>some ([],6000,2)) (fun n=>by simp only [ref1_Tokens,d,cond_true]) (Ev.ret _),.inl (by omega)⟩
def okA (z : Cx) : Prop:=∃ p q : Nat,p ≤ 6100 ∧ q ≤ 6100 ∧ z = ⟨FloatKind.f64.nearest p,FloatKind.f64.nearest q⟩
theorem spot_L0 (s : ByteArray) (a1 : Int) (m : Nat) (hm : m ≤ s.size) (hs : s.size ≤ 6000) : ∀ (j i : Nat) (p q : Nat),m - i ≤ j → i ≤ m → p ≤ i + 1 → q ≤ i + 1 → ∃ p' q' : Nat,p' ≤ 6001 ∧ q' ≤ 6001 ∧ Ev (fun n=>ref1_Spot_L0 n s a1 (m : Int) (p : Int) (q : Int) (i : Int)) ((p' : Int),(q' : Int)):=by
 intro j
 induction j with
 | zero =>
  intro i p q hj hi hp hq
  have d : decide ((i : Int) < (m : Int)) = false:=decide_eq_false (by omega)
  exact ⟨p,q,by omega,by omega,Ev.step (Ev.of_eq (g:=fun n=>some ((p : Int),(q : Int))) (fun n=>by simp only [ref1_Spot_L0,d,cond_false]) (Ev.ret _))⟩
 | succ j ih =>
  intro i p q hj hi hp hq
  by_cases h : i < m
  ·have d : decide ((i : Int) < (m : Int)) = true:=decide_eq_true (by omega)
   have e3 : wr ((i : Int) + 1) = ((i + 1 : Nat) : Int):=by rw [wr_of (by omega)]; rfl
   have e4 : wr ((p : Int) + 1) = ((p + 1 : Nat) : Int):=by rw [wr_of (by omega)]; rfl
   have e5 : wr ((q : Int) + 1) = ((q + 1 : Nat) : Int):=by rw [wr_of (by omega)]; rfl
   obtain ⟨x,hx,_⟩:=idxS_of s i (by omega)
   cases hc : (x == 10)
   ·obtain ⟨p',q',k0,k1,k2⟩:=ih (i + 1) p (q + 1) (by omega) (by omega) (by omega) (by omega)
    exact ⟨p',q',k0,k1,Ev.step (Ev.of_eq (fun n=>by simp only [ref1_Spot_L0,d,cond_true,jn,hx,Option.bind_some,hc,cond_false,e3,e5]) k2)⟩
   ·obtain ⟨p',q',k0,k1,k2⟩:=ih (i + 1) (p + 1) 1 (by omega) (by omega) (by omega) (by omega)
    exact ⟨p',q',k0,k1,Ev.step (Ev.of_eq (fun n=>by simp only [ref1_Spot_L0,d,cond_true,jn,hx,Option.bind_some,hc,e3,e4]; rfl) k2)⟩
  ·exact ih i p q (by omega) hi hp hq
theorem place_ev (s : ByteArray) (hs : s.size ≤ 6000) (a : Int) : ∃ z,Ev (fun n=>ref1_Place n s a) z ∧ okA z:=by
 obtain ⟨m,hm,e⟩ : ∃ m : Nat,m ≤ s.size ∧ gomax 0 (gomin (s.size : Int) a) = (m : Int):=by
  refine ⟨(gomax 0 (gomin (s.size : Int) a)).toNat,?_,?_⟩ <;> rw [gomax_eq,gomin_eq] <;> omega
 obtain ⟨p,q,k0,k1,k2⟩:=spot_L0 s a m hm hs m 0 1 1 (by omega) (by omega) (by omega) (by omega)
 refine ⟨_,Ev.of_eq (g:=fun n=>(ref1_Spot_L0 n s a (m : Int) 1 1 0).bind fun r1=>some (⟨FloatKind.f64.nearest r1.1,FloatKind.f64.nearest r1.2⟩ : Cx)) (fun n=>?_) (Ev.bind k2 (Ev.ret _)),p,q,by omega,by omega,rfl⟩
 simp only [ref1_Place,ref1_Spot,ref1_Within,e,Option.bind_some]
theorem keyword_L0 (w : ByteArray) : ∀ (j i : Nat),17 - i ≤ j → i ≤ 17 → ∃ b,Ev (fun n=>ref1_Keyword_L0 n w (i : Int)) b:=by
 intro j
 induction j with
 | zero =>
  intro i hj hi
  have d : decide ((i : Int) < 17) = false:=decide_eq_false (by omega)
  exact ⟨false,Ev.step (Ev.of_eq (g:=fun n=>some false) (fun n=>by simp only [ref1_Keyword_L0,d,cond_false]) (Ev.ret _))⟩
 | succ j ih =>
  intro i hj hi
  by_cases h : i < 17
  ·have d : decide ((i : Int) < 17) = true:=decide_eq_true (by omega)
   have e3 : wr ((i : Int) + 1) = ((i + 1 : Nat) : Int):=by rw [wr_of (by omega)]; rfl
   obtain ⟨x,hx⟩ : ∃ x,idx [k_var,k_wide,k_atomic,k_local,k_mutex,k_chan,k_go,k_lock,k_unlock,k_send,k_recv,k_print,k_if,k_else,k_repeat,k_goto,k_label] (i : Int) = some x :=
    ⟨_,idx_of (by omega) (by rw [Int.toNat_natCast]; exact List.getElem?_eq_getElem (by simpa using h))⟩
   cases hq : bytesEq w x
   ·obtain ⟨b,k1⟩:=ih (i + 1) (by omega) (by omega)
    exact ⟨b,Ev.step (Ev.of_eq (fun n=>by simp only [ref1_Keyword_L0,d,cond_true,hx,Option.bind_some,hq,cond_false,e3]) k1)⟩
   ·exact ⟨true,Ev.step (Ev.of_eq (g:=fun n=>some true) (fun n=>by simp only [ref1_Keyword_L0,d,cond_true,hx,Option.bind_some,hq]) (Ev.ret _))⟩
  ·exact ih i (by omega) hi
theorem keyword_ev (w : ByteArray) : ∃ b,Ev (fun n=>ref1_Keyword n w) b:=by
 obtain ⟨b,h⟩:=keyword_L0 w 17 0 (by omega) (by omega)
 exact ⟨b,Ev.of_eq (fun n=>by simp only [ref1_Keyword]; rfl) h⟩
theorem declKind_L0 (w : ByteArray) : ∀ (j i : Nat),6 - i ≤ j → i ≤ 6 → ∃ b,Ev (fun n=>ref1_declKind_L0 n w (i : Int)) b ∧ 0 ≤ b ∧ b ≤ 6:=by
 intro j
 induction j with
 | zero =>
  intro i hj hi
  have d : decide ((i : Int) < 6) = false:=decide_eq_false (by omega)
  exact ⟨0,Ev.step (Ev.of_eq (g:=fun n=>some 0) (fun n=>by simp only [ref1_declKind_L0,d,cond_false]) (Ev.ret _)),by omega,by omega⟩
 | succ j ih =>
  intro i hj hi
  by_cases h : i < 6
  ·have d : decide ((i : Int) < 6) = true:=decide_eq_true (by omega)
   have e3 : wr ((i : Int) + 1) = ((i + 1 : Nat) : Int):=by rw [wr_of (by omega)]; rfl
   obtain ⟨x,hx⟩ : ∃ x,idx [k_var,k_wide,k_atomic,k_local,k_mutex,k_chan] (i : Int) = some x :=
    ⟨_,idx_of (by omega) (by rw [Int.toNat_natCast]; exact List.getElem?_eq_getElem (by simpa using h))⟩
   cases hq : bytesEq w x
   ·obtain ⟨b,k1,k2⟩:=ih (i + 1) (by omega) (by omega)
    exact ⟨b,Ev.step (Ev.of_eq (fun n=>by simp only [ref1_declKind_L0,d,cond_true,hx,Option.bind_some,hq,cond_false,e3]) k1),k2⟩
   ·exact ⟨wr (1 + i),Ev.step (Ev.of_eq (g:=fun n=>some (wr (1 + i))) (fun n=>by simp only [ref1_declKind_L0,d,cond_true,hx,Option.bind_some,hq]) (Ev.ret _)),by rw [wr_of (by omega)]; omega,by rw [wr_of (by omega)]; omega⟩
  ·exact ih i (by omega) hi
theorem declKind_ev (w : ByteArray) : ∃ b,Ev (fun n=>ref1_declKind n w) b ∧ 0 ≤ b ∧ b ≤ 6:=by
 obtain ⟨b,h,h2⟩:=declKind_L0 w 6 0 (by omega) (by omega)
 exact ⟨b,Ev.of_eq (fun n=>by simp only [ref1_declKind]; rfl) h,h2⟩
end Go.Su.Ytfmgnboplbgniaa
namespace Go.Su.Ytfmgnboplbgniaa
open Go.Mx Go.Proofs
set_option linter.unusedVariables false
set_option linter.unusedSimpArgs false
set_option maxHeartbeats 4000000
mutual
def szS : Stmt → Nat
 | ⟨_,_,_,_,e,b,l,_⟩=>1 + szE e + (szSl b + szSl l)
def szSl : List Stmt → Nat
 | []=>0
 | s :: r=>szS s + szSl r
end
mutual
def fl1 : Stmt → List Stmt
 | ⟨k,w,v,m,e,b,l,a⟩=>⟨k,w,v,m,e,b,l,a⟩ :: (flat b ++ flat l)
def flat : List Stmt → List Stmt
 | []=>[]
 | s :: r=>fl1 s ++ flat r
end
theorem len_El : ∀ l : List Expr,l.length ≤ szEl l
 | []=>by simp
 | e :: r=>by
  have:=len_El r
  cases e
  rw [List.length_cons,szEl,szE]; omega
theorem len_Sl : ∀ l : List Stmt,l.length ≤ szSl l
 | []=>by simp
 | e :: r=>by
  have:=len_Sl r
  cases e
  rw [List.length_cons,szSl,szS]; omega
theorem flat_len : (∀ s,(fl1 s).length ≤ szS s) ∧ ∀ l,(flat l).length ≤ szSl l:=by
 refine stmt_ind ?_ (by simp [flat]) ?_
 ·intro k w v m e b l a h1 h2
  rw [fl1,szS]; simp only [List.length_cons,List.length_append]; omega
 ·intro s r h1 h2
  rw [flat,szSl,List.length_append]; omega
theorem fl1_eq (s : Stmt) : fl1 s = s :: (flat s.Body ++ flat s.Else):=by cases s; rw [fl1]
theorem set_self {α : Type} (pre : List α) (x : α) (r : List α) : (pre ++ x :: r).set (pre.length : Int).toNat x = pre ++ x :: r:=by
 simp [List.set_append]
theorem sub_all {α : Type} (l : List α) : sub l 0 (ln l) = some l:=by
 have:=sub_of (l:=l) (a:=0) (b:=l.length) (by omega) (by omega)
 simpa using this
theorem copyE_ev : (∀ e,szE e ≤ 1000000 → Ev (fun n=>tree_copyExpr n e) e) ∧
  ∀ l,∀ (e : Expr) (r1 : List Expr) (pre : List Expr),szEl l ≤ 1000000 → (pre ++ l).length ≤ 1000000 → Ev (fun n=>tree_copyExpr_L0 n e r1 (pre ++ l) (pre ++ l) b0 pre.length) ⟨e.Kind,e.N,e.Name,pre ++ l⟩:=by
 refine expr_ind ?_ ?_ ?_
 ·intro k m w l ih h
  rw [szE] at h
  have hl:=len_El l
  have hr : room s_Expr.i1.bytes ([] : List Expr).length l.length = true:=room_of (by
   have : s_Expr.i1.bytes = 56:=rfl
   rw [this]; simp only [List.length_nil]; omega)
  refine Ev.step (Ev.of_eq (g:=fun n=>tree_copyExpr_L0 n ⟨k,m,w,l⟩ l l l b0 0) (fun n=>?_) ?_)
  ·simp only [tree_copyExpr,Clone_Expr,Clip_Expr_o,hr,cond_true,Option.bind_some]; rfl
  ·exact ih ⟨k,m,w,l⟩ l [] (by omega) (by simp; omega)
 ·intro e r1 pre h1 h2
  refine Ev.step (Ev.of_eq (g:=fun n=>some ⟨e.Kind,e.N,e.Name,pre ++ []⟩) (fun n=>?_) (Ev.ret _))
  simp only [tree_copyExpr_L0,List.append_nil,ix_ge,cond_false]
 ·intro x r ihx ihr e r1 pre h1 h2
  rw [szEl] at h1
  have hp : pre.length ≤ 1000000:=by simp at h2; omega
  refine Ev.step (Ev.of_eq (g:=fun n=>(tree_copyExpr n x).bind fun r8=>tree_copyExpr_L0 n e r1 (pre ++ x :: r) ((pre ++ x :: r).set (pre.length : Int).toNat r8) b0 ((pre ++ [x]).length)) (fun n=>?_) (Ev.bind (ihx (by omega)) ?_))
  ·simp only [tree_copyExpr_L0,ix_lt,cond_true,ix_get,Option.bind_some]
   rw [ix_wr pre x (by omega)]
  ·rw [set_self,ix_cons]
   exact ihr e r1 (pre ++ [x]) (by omega) (by rw [← ix_cons]; exact h2)
theorem copyS_ev : (∀ s,szS s ≤ 1000000 → Ev (fun n=>tree_copyStmt n s) s) ∧
  ∀ l,∀ (r0 r1 : List Stmt) (pre : List Stmt),szSl l ≤ 1000000 → (pre ++ l).length ≤ 1000000 → Ev (fun n=>tree_copyBlock_L0 n r0 r1 (pre ++ l) (pre ++ l) pre.length) (pre ++ l):=by
 have blk : ∀ l : List Stmt,szSl l ≤ 1000000 → (∀ (r0 r1 : List Stmt) (pre : List Stmt),szSl l ≤ 1000000 → (pre ++ l).length ≤ 1000000 → Ev (fun n=>tree_copyBlock_L0 n r0 r1 (pre ++ l) (pre ++ l) pre.length) (pre ++ l)) → Ev (fun n=>tree_copyBlock n l) l:=by
  intro l h ih
  have hl:=len_Sl l
  have hr : room s_Stmt.i1.bytes ([] : List Stmt).length l.length = true:=room_of (by
   have : s_Stmt.i1.bytes = 168:=rfl
   rw [this]; simp only [List.length_nil]; omega)
  refine Ev.step (Ev.of_eq (g:=fun n=>tree_copyBlock_L0 n l l l l 0) (fun n=>?_) ?_)
  ·simp only [tree_copyBlock,Clone_Stmt,Clip_Stmt_o,hr,cond_true,Option.bind_some]; rfl
  ·exact ih l l [] h (by simp; omega)
 refine stmt_ind ?_ ?_ ?_
 ·intro k w v m e b l a ihb ihl h
  rw [szS] at h
  refine Ev.step (Ev.of_eq (g:=fun n=>(tree_copyExpr n e).bind fun r1=>(tree_copyBlock n b).bind fun r2=>(tree_copyBlock n l).bind fun r3=>some ⟨k,w,v,m,r1,r2,r3,a⟩) (fun n=>?_)
   (Ev.bind (copyE_ev.1 e (by omega)) (Ev.bind (blk b (by omega) ihb) (Ev.bind (blk l (by omega) ihl) (Ev.ret _)))))
  simp only [tree_copyStmt]
 ·intro r0 r1 pre h1 h2
  refine Ev.step (Ev.of_eq (g:=fun n=>some (pre ++ [])) (fun n=>?_) (Ev.ret _))
  simp only [tree_copyBlock_L0,List.append_nil,ix_ge,cond_false]
 ·intro x r ihx ihr r0 r1 pre h1 h2
  rw [szSl] at h1
  have hp : pre.length ≤ 1000000:=by simp at h2; omega
  refine Ev.step (Ev.of_eq (g:=fun n=>(tree_copyStmt n x).bind fun r8=>tree_copyBlock_L0 n r0 r1 (pre ++ x :: r) ((pre ++ x :: r).set (pre.length : Int).toNat r8) ((pre ++ [x]).length)) (fun n=>?_) (Ev.bind (ihx (by omega)) ?_))
  ·simp only [tree_copyBlock_L0,ix_lt,cond_true,ix_get,Option.bind_some]
   rw [ix_wr pre x (by omega)]
  ·rw [set_self,ix_cons]
   exact ihr r0 r1 (pre ++ [x]) (by omega) (by rw [← ix_cons]; exact h2)
theorem room32 (a : Nat) (h : a ≤ 2000000) (x : Stmt) : room s_Stmt.i1.bytes a [x].length = true:=room_of (by
 have : s_Stmt.i1.bytes = 168:=rfl
 rw [this]; simp only [List.length_singleton]; omega)
def flats : List (List Stmt) → List Stmt
 | []=>[]
 | t :: r=>flat t ++ flats r
def szT : List (List Stmt) → Nat
 | []=>0
 | t :: r=>1 + szSl t + szT r
theorem len_T : ∀ ts : List (List Stmt),ts.length ≤ szT ts ∧ (flats ts).length ≤ szT ts
 | []=>by simp [flats]
 | t :: r=>by
  have:=len_T r
  have:=flat_len.2 t
  rw [flats,szT,List.length_append,List.length_cons]; omega
theorem sz_flat : (∀ s,∀ x ∈ fl1 s,szS x ≤ szS s) ∧ ∀ l,∀ x ∈ flat l,szS x ≤ szSl l:=by
 refine stmt_ind ?_ (by simp [flat]) ?_
 ·intro k w v m e b l a h1 h2 x hx
  rw [fl1,List.mem_cons,List.mem_append] at hx
  rcases hx with rfl | hx | hx
  ·exact Nat.le_refl _
  ·have:=h1 x hx; rw [szS]; omega
  ·have:=h2 x hx; rw [szS]; omega
 ·intro s r h1 h2 x hx
  rw [flat,List.mem_append] at hx
  rw [szSl]
  rcases hx with hx | hx
  ·have:=h1 x hx; omega
  ·have:=h2 x hx; omega
theorem sz_flats : ∀ ts : List (List Stmt),∀ x ∈ flats ts,szS x ≤ szT ts
 | [],x,hx=>by simp [flats] at hx
 | t :: r,x,hx=>by
  rw [flats,List.mem_append] at hx
  rw [szT]
  rcases hx with hx | hx
  ·have:=sz_flat.2 t x hx; omega
  ·have:=sz_flats r x hx; omega
end Go.Su.Ytfmgnboplbgniaa
