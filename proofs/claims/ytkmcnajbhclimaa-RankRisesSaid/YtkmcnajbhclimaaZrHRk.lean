/-
  The law's loop with its map: the code computes what rises_map does.
-/
import Derived.Test.YtkmcnajbhclimaaZrHRm
namespace Go.Mx
set_option linter.unusedVariables false
section
variable {P : Program} {T : TypeId → Option TI} {bad : Nat → Prop} {E : Ent} {N : Nat}
theorem lkA_pur : ∀ {A : List (Nat × V)} (k : Nat),A.all (fun x=>pur 6 x.2) = true → pur 6 (lkA A k) = true
 | [],k,_=>rfl
 | (j,v) :: r,k,h=>by
  simp only [List.all_cons,Bool.and_eq_true] at h
  rw [lkA_cons]
  split
  ·exact h.1
  ·exact lkA_pur k h.2
theorem SRA.drop {A : List (Nat × V)} {h0 : Hp} {c0 : Nat} {a : Act} {w : World} {m : MM} (c' : Nat) (hs : SRA bad N ⟨A,h0,c0⟩ a w m) (hl : E.le w m c0) (hc : E.c ≤ c') (hp : A.all (fun x=>pur 6 x.2) = true) :
  SRA bad N ⟨A,[],c'⟩ a w noM ∧ E.le w noM c':=by
 have hok : ∀ β,okOf bad w m β → okOf bad w noM β ∧ ∀ off,w.cell? ⟨β,off,none⟩ = w.cell? ⟨β,off,none⟩:=fun β hβ=>⟨⟨hβ.1,hβ.2.1,fun b l h=>by simp [noM] at h⟩,fun _=>rfl⟩
 refine ⟨⟨hs.1,⟨⟨?_,fun i=>?_⟩,⟨fun b B hb=>by simp [SA.st,Hp.get] at hb,fun _ _=>rfl,hs.2.h.lt,fun b l β h=>by simp [noM] at h,fun b b' l l' β h=>by simp [noM] at h⟩,hs.2.d⟩⟩,?_⟩
 ·simpa [SA.st,mkT_length] using hs.2.t.1
 ·have h1:=hs.2.t.2 i
  simp only [SA.st] at h1 ⊢
  have h2 : (mkT N A).getD i .undef = lkA A i:=mkT_getD hs.1 i
  rw [h2] at h1 ⊢
  exact .pure ((pur_sound 6 (lkA_pur i hp) h1).mono hok)
 ·exact ⟨hc,fun b l h=>by simp [noM] at h,fun β hβ hno=>hl.keep β hβ hno,hl.size,hl.os,hl.output,hl.tape,fun b l β h=>by simp [noM] at h⟩
theorem WM_drop {code : Code} {A : List (Nat × V)} {h0 : Hp} {c0 : Nat} {G : Option Gs} {Q : Exit → SA → Option Gs → Prop} (hE : E.c = 0) (h : WM P bad E N code ⟨A,[],1⟩ G Q) (hp : A.all (fun x=>pur 6 x.2) = true:=by kernel_rfl) : WM P bad E N code ⟨A,h0,c0⟩ G Q:=by
 intro a w m hs hl hg
 obtain ⟨h1,h2⟩:=hs.drop 1 hl (by omega) hp
 refine h a w noM h1 h2 fun g hg'=>?_
 obtain ⟨q1,_,q3⟩:=hg g hg'
 exact ⟨q1,fun b l hb=>by simp [noM] at hb,q3⟩
theorem WM_keep {code : Code} {A : List (Nat × V)} {h0 : Hp} {c0 : Nat} {G : Option Gs} {Q : Exit → SA → Option Gs → Prop} (ks : List Nat) (A' : List (Nat × V)) (hA : keepA ks A = A') (hk : ks.all (Nat.blt · N) = true) (h : WM P bad E N code ⟨A',h0,c0⟩ G Q) : WM P bad E N code ⟨A,h0,c0⟩ G Q:=by
 subst hA
 exact WM_weak (fun E' _=>Weak_keep ks hk) h
theorem Mone (hT : TabOk P T) {ops : Array Oper} {i : Nat} {A : List (Nat × V)} {h0 : Hp} {c0 : Nat} {G : Option Gs} {Q : Exit → SA → Option Gs → Prop} {o : Oper} (ho : ops[i]? = some o) {v : V} {h' : Hp} {c' : Nat} (he : evOperF P T false (evA A) o h0 c0 = some (v,h',c')) (hk : WOM P bad E N ops (i + 1) ⟨putA A o.dst v,h',c'⟩ G Q)
  (hgd : evGuardA A ops o = some true:=by kernel_rfl) (hd : okD N o.dst = true:=by kernel_rfl) : WOM P bad E N ops i ⟨A,h0,c0⟩ G Q :=
 WOM_eff _ ho hgd (fun E'=>Eff_op hT he hd) (by rintro _ rfl; exact hk)
theorem Mseg (hT : TabOk P T) {ops : Array Oper} {i : Nat} {s : SA} {G : Option Gs} {Q : Exit → SA → Option Gs → Prop} (n : Nat) (ks : List Nat) (s' : SA) (h : WOM P bad E N ops (i + n) s' G Q) (hr : runK P T N ops i n ks s = some s':=by kernel_rfl) (hk : ks.all (Nat.blt · N) = true:=by kernel_rfl) : WOM P bad E N ops i s G Q :=
 WOM_seg hT n ks s' hr hk h
theorem Mend {ops : Array Oper} {i : Nat} {s : SA} {G : Option Gs} {Q : Exit → SA → Option Gs → Prop} (h : Q .normal s G) (hi : Nat.ble ops.size i = true:=by kernel_rfl) : WOM P bad E N ops i s G Q:=WOM_end hi h
end
end Go.Mx
namespace Go.Su.Ytkmcnajbhclimaa
open Go.Mx Go.Proofs
set_option maxRecDepth 100000
set_option maxHeartbeats 20000000
set_option linter.unusedVariables false
set_option linter.unusedSimpArgs false
def cS2 : Code → Code
 | .seq _ y=>y
 | x=>x
noncomputable def riseC : Code:=cS2 (cS2 (cS2 (cS2 (cS2 (cS2 (cS2 (Try.f3.body.getD .skip)))))))
theorem hM40 : Try.prog.underlying 40 = some (.map 3 4):=by kernel_rfl
theorem hM3 : Try.prog.underlying 3 = some (.int .i64):=by kernel_rfl
theorem hM4 (w : World) : (zeroValue 4).run Try.prog w = .ok (.bool false) w:=by kernel_rfl
section
variable {bad : Nat → Prop} {E : Ent} {g : List (List ByteArray)} {I : List Arr2_i64} {l : List Int} {e : Int} {r : Bool}
theorem rises_ok (hE : E.c = 0) {n : Nat} (h : rises_map n g I l e = some r) {A : List (Nat × V)} {h0 : Hp} {c0 : Nat} {Q : Exit → SA → Prop} (hk : keysLt Try.f3.ntmps A = true)
  (s12 : lkA A 12 = po s_Lstring g) (s13 : lkA A 13 = .ps .fopt (s_Arr2_i64.F I)) (s14 : lkA A 14 = .ps .fopt (s_int.F l)) (s15 : lkA A 15 = vi e) (hQ : ∀ h' c',Q .ret ⟨[(10,vb r)],h',c'⟩) :
  WA Try.prog bad E Try.f3.ntmps riseC ⟨A,h0,c0⟩ Q:=by
 refine WA_of_WM ?_
 refine WM_keep [12,13,14,15] [(12,po s_Lstring g),(13,.ps .fopt (s_Arr2_i64.F I)),(14,.ps .fopt (s_int.F l)),(15,vi e)] (by simp only [keepA,List.map_cons,List.map_nil,s12,s13,s14,s15]) (by kernel_rfl) ?_
 refine WM_drop hE ?_
 unfold rises_map at h
 refine WM_seq ?_
 refine WM_seq ?_
 refine WM_region ?_
 refine Mseg hT 1 [12,13,14,15,97] ⟨[(12,po s_Lstring g),(13,.ps .fopt (s_Arr2_i64.F I)),(14,.ps .fopt (s_int.F l)),(15,vi e),(97,po s_Lstring g)],[],1⟩ ?_
 refine Mone hT rfl (v_len s_Lstring .opt g) ?_
 refine Mseg hT 1 [12,13,14,15,98,99] ⟨[(12,po s_Lstring g),(13,.ps .fopt (s_Arr2_i64.F I)),(14,.ps .fopt (s_int.F l)),(15,vi e),(98,vi (ln g)),(99,vi 0)],[],1⟩ ?_
 refine Mend ?_
 refine WM_block ?_
 refine WM_loop (fun k s _=>∃ q,q ≤ k ∧ ∃ kk h1 c1,rises_L0 q g I l e kk = some r ∧ s = ⟨[(12,po s_Lstring g),(13,.ps .fopt (s_Arr2_i64.F I)),(14,.ps .fopt (s_int.F l)),(15,vi e),(98,vi (ln g)),(99,vi kk)],h1,c1⟩) n ⟨n,Nat.le_refl _,0,_,_,h,rfl⟩ (by
  rintro s G ⟨q,hq,kk,h1,c1,h,_⟩
  obtain rfl:=Nat.le_zero.1 hq
  rw [rises_L0] at h; cases h) ?_
 clear h
 rintro kA s G ⟨q,hq,kk,h1,c1,h,rfl⟩
 rcases q with _ | q
 ·rw [rises_L0] at h; cases h
 rw [rises_L0] at h
 refine WM_drop hE ?_
 refine WM_seq ?_
 refine WM_region ?_
 refine Mseg hT 1 [12,13,14,15,98,99,100] ⟨[(12,po s_Lstring g),(13,.ps .fopt (s_Arr2_i64.F I)),(14,.ps .fopt (s_int.F l)),(15,vi e),(98,vi (ln g)),(99,vi kk),(100,vb (decide (kk < (ln g))))],[],1⟩ ?_
 refine Mend ?_
 refine WM_seq ?_
 cases hb : decide (kk < (ln g))
 ·replace h:=cfalse hb h
  obtain rfl:=Option.some.inj h
  refine WM_cond false rfl (fun h=>by cases h) fun _=>?_
  refine WM_exit ?_
  refine WM_seq ?_
  refine WM_region ?_
  refine Mseg hT 1 [10] ⟨[(10,vb false)],[],1⟩ ?_
  refine Mend ?_
  refine WM_ret ?_
  exact hQ _ _
 replace h:=ctrue hb h
 refine WM_cond true rfl (fun _=>?_) fun h=>by cases h
 refine WM_skip ?_
 refine WM_seq ?_
 refine WM_block ?_
 refine WM_seq ?_
 refine WM_region ?_
 refine Mseg hT 2 [12,13,14,15,98,99,21] ⟨[(12,po s_Lstring g),(13,.ps .fopt (s_Arr2_i64.F I)),(14,.ps .fopt (s_int.F l)),(15,vi e),(98,vi (ln g)),(99,vi kk),(21,vi kk)],[],1⟩ ?_
 refine Mend ?_
 refine WM_seq ?_
 refine WM_region ?_
 refine WOM_make (o:=_) (t:=40) rfl (by kernel_rfl) rfl (by kernel_rfl) fun β=>?_
 refine Mseg hT 1 [12,13,14,15,98,99,21,22] ⟨[(12,po s_Lstring g),(13,.ps .fopt (s_Arr2_i64.F I)),(14,.ps .fopt (s_int.F l)),(15,vi e),(98,vi (ln g)),(99,vi kk),(21,vi kk),(22,.p (.map (some β)))],[],1⟩ ?_
 refine Mend ?_
 refine WM_seq ?_
 refine WM_seq ?_
 refine WM_region ?_
 refine Mseg hT 1 [12,13,14,15,98,99,21,22,23] ⟨[(12,po s_Lstring g),(13,.ps .fopt (s_Arr2_i64.F I)),(14,.ps .fopt (s_int.F l)),(15,vi e),(98,vi (ln g)),(99,vi kk),(21,vi kk),(22,.p (.map (some β))),(23,vi 0)],[],1⟩ ?_
 refine Mend ?_
 refine WM_block ?_
 refine WM_loop (fun k s G=>∃ q',q' ≤ k ∧ q' ≤ kA ∧ ∃ D i h1 c1,rises_L1 q' g I l e kk D i = some r ∧ G = some ⟨β,D⟩ ∧ s = ⟨[(12,po s_Lstring g),(13,.ps .fopt (s_Arr2_i64.F I)),(14,.ps .fopt (s_int.F l)),(15,vi e),(98,vi (ln g)),(99,vi kk),(21,vi kk),(22,.p (.map (some β))),(23,vi i)],h1,c1⟩) q ⟨q,Nat.le_refl _,by omega,[],0,_,_,h,rfl,rfl⟩ (by
  rintro s G ⟨q,hq,_,D,i,h1,c1,h,_⟩
  obtain rfl:=Nat.le_zero.1 hq
  rw [rises_L1] at h; cases h) ?_
 clear h
 rintro kB s G ⟨q2,hq1,hq2,D,i,h1,c1,h,rfl,rfl⟩
 rcases q2 with _ | q2
 ·rw [rises_L1] at h; cases h
 rw [rises_L1] at h
 refine WM_drop hE ?_
 refine WM_seq ?_
 refine WM_seq ?_
 refine WM_region ?_
 refine Mseg hT 2 [12,13,14,15,98,99,21,22,23,103,104] ⟨[(12,po s_Lstring g),(13,.ps .fopt (s_Arr2_i64.F I)),(14,.ps .fopt (s_int.F l)),(15,vi e),(98,vi (ln g)),(99,vi kk),(21,vi kk),(22,.p (.map (some β))),(23,vi i),(103,vi i),(104,po s_Lstring g)],[],1⟩ ?_
 refine Mone hT rfl (v_len s_Lstring .opt g) ?_
 refine Mseg hT 1 [12,13,14,15,98,99,21,22,23,106] ⟨[(12,po s_Lstring g),(13,.ps .fopt (s_Arr2_i64.F I)),(14,.ps .fopt (s_int.F l)),(15,vi e),(98,vi (ln g)),(99,vi kk),(21,vi kk),(22,.p (.map (some β))),(23,vi i),(106,vb (decide (i ≤ (ln g))))],[],1⟩ ?_
 refine Mend ?_
 cases hb2 : decide (i ≤ (ln g))
 ·
  replace h:=cfalse hb2 h
  refine WM_cond false rfl (fun h=>by cases h) fun _=>?_
  refine WM_exit ?_
  refine WM_seq ?_
  refine WM_region ?_
  refine Mseg hT 2 [12,13,14,15,98,99,129,130] ⟨[(12,po s_Lstring g),(13,.ps .fopt (s_Arr2_i64.F I)),(14,.ps .fopt (s_int.F l)),(15,vi e),(98,vi (ln g)),(99,vi kk),(129,.p (.map (some β))),(130,vi kk)],[],1⟩ ?_
  refine WOM_look (g:=⟨β,D⟩) kk rfl (by kernel_rfl) rfl (by kernel_rfl) hM40 hM3 hM4 (by kernel_rfl) (by kernel_rfl) ?_
  refine Mend ?_
  show WM _ _ _ _ _ ⟨(131,vb (hasK D kk)) :: _,_,_⟩ _ _
  cases hb3 : hasK D kk
  ·replace h:=cfalse hb3 h
   refine WM_cond false rfl (fun h=>by cases h) fun _=>?_
   refine WM_skip ?_
   refine WM_region ?_
   refine Mseg hT 2 [12,13,14,15,98,99] ⟨[(12,po s_Lstring g),(13,.ps .fopt (s_Arr2_i64.F I)),(14,.ps .fopt (s_int.F l)),(15,vi e),(98,vi (ln g)),(99,vi (wr (kk + 1)))],[],1⟩ ?_
   refine Mend ?_
   exact ⟨q2,by omega,_,_,_,h,rfl⟩
  ·replace h:=ctrue hb3 h
   refine WM_cond true rfl (fun _=>?_) fun h=>by cases h
   refine WM_seq ?_
   refine WM_region ?_
   refine Mseg hT 3 [14,134] ⟨[(14,.ps .fopt (s_int.F l)),(134,vb (e == 8))],[],1⟩ ?_
   cases hb4 : (e == 8)
   ·replace h:=cfalse hb4 h
    obtain rfl:=Option.some.inj h
    refine Mseg hT 5 [10] ⟨[(10,vb false)],[],1⟩ ?_
    refine Mend ?_
    refine WM_ret ?_
    exact hQ _ _
   ·replace h:=ctrue hb4 h
    obtain rfl:=Option.some.inj h
    refine Mseg hT 1 [14,134,135] ⟨[(14,.ps .fopt (s_int.F l)),(134,vb true),(135,.ps .fopt (s_int.F l))],[],1⟩ ?_
    refine Mone hT rfl (v_len s_int .fopt l) ?_
    refine Mseg hT 3 [10] ⟨[(10,vb ((ln l) == 0))],[],1⟩ ?_
    refine Mend ?_
    refine WM_ret ?_
    exact hQ _ _
 replace h:=ctrue hb2 h
 refine WM_cond true rfl (fun _=>?_) fun h=>by cases h
 refine WM_skip ?_
 refine WM_seq ?_
 refine WM_block ?_
 refine WM_seq ?_
 refine WM_region ?_
 refine Mseg hT 1 [12,13,14,15,98,99,21,22,23,109] ⟨[(12,po s_Lstring g),(13,.ps .fopt (s_Arr2_i64.F I)),(14,.ps .fopt (s_int.F l)),(15,vi e),(98,vi (ln g)),(99,vi kk),(21,vi kk),(22,.p (.map (some β))),(23,vi i),(109,.ps .fopt (s_Arr2_i64.F I))],[],1⟩ ?_
 refine Mone hT rfl (v_len s_Arr2_i64 .fopt I) ?_
 refine Mseg hT 1 [12,13,14,15,98,99,21,22,23,109,110,111] ⟨[(12,po s_Lstring g),(13,.ps .fopt (s_Arr2_i64.F I)),(14,.ps .fopt (s_int.F l)),(15,vi e),(98,vi (ln g)),(99,vi kk),(21,vi kk),(22,.p (.map (some β))),(23,vi i),(109,.ps .fopt (s_Arr2_i64.F I)),(110,vi (ln I)),(111,vi 0)],[],1⟩ ?_
 refine Mend ?_
 refine WM_block ?_
 refine WM_loop (fun k s G=>∃ q',q' ≤ k ∧ q' ≤ kB ∧ q' ≤ kA ∧ ∃ D j h1 c1,rises_L2 q' g I l e kk D i j = some r ∧ G = some ⟨β,D⟩ ∧ s = ⟨[(12,po s_Lstring g),(13,.ps .fopt (s_Arr2_i64.F I)),(14,.ps .fopt (s_int.F l)),(15,vi e),(98,vi (ln g)),(99,vi kk),(21,vi kk),(22,.p (.map (some β))),(23,vi i),(109,.ps .fopt (s_Arr2_i64.F I)),(110,vi (ln I)),(111,vi j)],h1,c1⟩) q2 ⟨q2,Nat.le_refl _,by omega,by omega,D,0,_,_,h,rfl,rfl⟩ (by
  rintro s G ⟨q,hq,_,_,D,j,h1,c1,h,_⟩
  obtain rfl:=Nat.le_zero.1 hq
  rw [rises_L2] at h; cases h) ?_
 clear h hq1 hq2
 clear D
 rintro kC s G ⟨q3,hq1,hq2,hq3,D,j,h1,c1,h,rfl,rfl⟩
 rcases q3 with _ | q3
 ·rw [rises_L2] at h; cases h
 rw [rises_L2] at h
 refine WM_drop hE ?_
 refine WM_seq ?_
 refine WM_region ?_
 refine Mseg hT 1 [12,13,14,15,98,99,21,22,23,109,110,111,112] ⟨[(12,po s_Lstring g),(13,.ps .fopt (s_Arr2_i64.F I)),(14,.ps .fopt (s_int.F l)),(15,vi e),(98,vi (ln g)),(99,vi kk),(21,vi kk),(22,.p (.map (some β))),(23,vi i),(109,.ps .fopt (s_Arr2_i64.F I)),(110,vi (ln I)),(111,vi j),(112,vb (decide (j < (ln I))))],[],1⟩ ?_
 refine Mend ?_
 refine WM_seq ?_
 cases hb5 : decide (j < (ln I))
 ·replace h:=cfalse hb5 h
  refine WM_cond false rfl (fun h=>by cases h) fun _=>?_
  refine WM_exit ?_
  refine WM_region ?_
  refine Mseg hT 3 [12,13,14,15,98,99,21,22,23] ⟨[(12,po s_Lstring g),(13,.ps .fopt (s_Arr2_i64.F I)),(14,.ps .fopt (s_int.F l)),(15,vi e),(98,vi (ln g)),(99,vi kk),(21,vi kk),(22,.p (.map (some β))),(23,vi (wr (i + 1)))],[],1⟩ ?_
  refine Mend ?_
  exact ⟨q3,by omega,by omega,D,_,_,_,h,rfl,rfl⟩
 replace h:=ctrue hb5 h
 refine WM_cond true rfl (fun _=>?_) fun h=>by cases h
 refine WM_skip ?_
 refine WM_seq ?_
 refine WM_block ?_
 refine WM_seq ?_
 refine WM_region ?_
 obtain ⟨x,hx,h⟩:=bsome h
 refine Mone hT rfl (v_index s_Arr2_i64 .fopt I .i64 j hx) ?_
 refine Mseg hT 3 [12,13,14,15,98,99,21,22,23,109,110,111,25] ⟨[(12,po s_Lstring g),(13,.ps .fopt (s_Arr2_i64.F I)),(14,.ps .fopt (s_int.F l)),(15,vi e),(98,vi (ln g)),(99,vi kk),(21,vi kk),(22,.p (.map (some β))),(23,vi i),(109,.ps .fopt (s_Arr2_i64.F I)),(110,vi (ln I)),(111,vi j),(25,bx 25 1)],[(25,cb 1 39 2 (eArr2_i64 x))],2⟩ ?_
 refine Mend ?_
 refine WM_seq ?_
 refine WM_region ?_
 refine Mseg hT 5 [12,13,14,15,98,99,21,22,23,109,110,111,25,119] ⟨[(12,po s_Lstring g),(13,.ps .fopt (s_Arr2_i64.F I)),(14,.ps .fopt (s_int.F l)),(15,vi e),(98,vi (ln g)),(99,vi kk),(21,vi kk),(22,.p (.map (some β))),(23,vi i),(109,.ps .fopt (s_Arr2_i64.F I)),(110,vi (ln I)),(111,vi j),(25,bx 25 1),(119,vb (x.e0 == kk))],[(25,cb 1 39 2 (eArr2_i64 x))],2⟩ ?_
 cases hb6 : (x.e0 == kk)
 ·replace h:=cfalse hb6 h
  refine Mseg hT 3 [12,13,14,15,98,99,21,22,23,109,110,111,25,119,120,122] ⟨[(12,po s_Lstring g),(13,.ps .fopt (s_Arr2_i64.F I)),(14,.ps .fopt (s_int.F l)),(15,vi e),(98,vi (ln g)),(99,vi kk),(21,vi kk),(22,.p (.map (some β))),(23,vi i),(109,.ps .fopt (s_Arr2_i64.F I)),(110,vi (ln I)),(111,vi j),(25,bx 25 1),(119,vb false),(120,.p (.map (some β))),(122,vi x.e0)],[(25,cb 1 39 2 (eArr2_i64 x))],2⟩ ?_
  refine WOM_look (g:=⟨β,D⟩) x.e0 rfl (by kernel_rfl) rfl (by kernel_rfl) hM40 hM3 hM4 (by kernel_rfl) (by kernel_rfl) ?_
  refine Mseg hT 1 [12,13,14,15,98,99,21,22,23,109,110,111,25,124] ⟨[(12,po s_Lstring g),(13,.ps .fopt (s_Arr2_i64.F I)),(14,.ps .fopt (s_int.F l)),(15,vi e),(98,vi (ln g)),(99,vi kk),(21,vi kk),(22,.p (.map (some β))),(23,vi i),(109,.ps .fopt (s_Arr2_i64.F I)),(110,vi (ln I)),(111,vi j),(25,bx 25 1),(124,vb (hasK D x.e0))],[(25,cb 1 39 2 (eArr2_i64 x))],2⟩ ?_
  refine Mend ?_
  cases hb7 : hasK D x.e0
  ·replace h:=cfalse hb7 h
   refine WM_cond false rfl (fun h=>by cases h) fun _=>?_
   refine WM_skip ?_
   refine WM_region ?_
   refine Mseg hT 2 [12,13,14,15,98,99,21,22,23,109,110,111] ⟨[(12,po s_Lstring g),(13,.ps .fopt (s_Arr2_i64.F I)),(14,.ps .fopt (s_int.F l)),(15,vi e),(98,vi (ln g)),(99,vi kk),(21,vi kk),(22,.p (.map (some β))),(23,vi i),(109,.ps .fopt (s_Arr2_i64.F I)),(110,vi (ln I)),(111,vi (wr (j + 1)))],[(25,cb 1 39 2 (eArr2_i64 x))],2⟩ ?_
   refine Mend ?_
   exact ⟨q3,by omega,by omega,by omega,D,_,_,_,h,rfl,rfl⟩
  ·replace h:=ctrue hb7 h
   refine WM_cond true rfl (fun _=>?_) fun h=>by cases h
   refine WM_region ?_
   refine Mseg hT 3 [12,13,14,15,98,99,21,22,23,109,110,111,125,127] ⟨[(12,po s_Lstring g),(13,.ps .fopt (s_Arr2_i64.F I)),(14,.ps .fopt (s_int.F l)),(15,vi e),(98,vi (ln g)),(99,vi kk),(21,vi kk),(22,.p (.map (some β))),(23,vi i),(109,.ps .fopt (s_Arr2_i64.F I)),(110,vi (ln I)),(111,vi j),(125,.p (.map (some β))),(127,vi x.e1)],[(25,cb 1 39 2 (eArr2_i64 x))],2⟩ ?_
   refine WOM_upd (g:=⟨β,D⟩) x.e1 rfl (by kernel_rfl) rfl (by kernel_rfl) hM40 hM3 (by kernel_rfl) (by kernel_rfl) (by kernel_rfl) ?_
   refine Mend ?_
   refine WM_region ?_
   refine Mseg hT 2 [12,13,14,15,98,99,21,22,23,109,110,111] ⟨[(12,po s_Lstring g),(13,.ps .fopt (s_Arr2_i64.F I)),(14,.ps .fopt (s_int.F l)),(15,vi e),(98,vi (ln g)),(99,vi kk),(21,vi kk),(22,.p (.map (some β))),(23,vi i),(109,.ps .fopt (s_Arr2_i64.F I)),(110,vi (ln I)),(111,vi (wr (j + 1)))],[(25,cb 1 39 2 (eArr2_i64 x))],2⟩ ?_
   refine Mend ?_
   exact ⟨q3,by omega,by omega,by omega,putK D x.e1,_,_,_,h,rfl,rfl⟩
 ·replace h:=ctrue hb6 h
  refine Mseg hT 5 [12,13,14,15,98,99,21,22,23,109,110,111,25,124] ⟨[(12,po s_Lstring g),(13,.ps .fopt (s_Arr2_i64.F I)),(14,.ps .fopt (s_int.F l)),(15,vi e),(98,vi (ln g)),(99,vi kk),(21,vi kk),(22,.p (.map (some β))),(23,vi i),(109,.ps .fopt (s_Arr2_i64.F I)),(110,vi (ln I)),(111,vi j),(25,bx 25 1),(124,vb true)],[(25,cb 1 39 2 (eArr2_i64 x))],2⟩ ?_
  refine Mend ?_
  refine WM_cond true rfl (fun _=>?_) fun h=>by cases h
  refine WM_region ?_
  refine Mseg hT 3 [12,13,14,15,98,99,21,22,23,109,110,111,125,127] ⟨[(12,po s_Lstring g),(13,.ps .fopt (s_Arr2_i64.F I)),(14,.ps .fopt (s_int.F l)),(15,vi e),(98,vi (ln g)),(99,vi kk),(21,vi kk),(22,.p (.map (some β))),(23,vi i),(109,.ps .fopt (s_Arr2_i64.F I)),(110,vi (ln I)),(111,vi j),(125,.p (.map (some β))),(127,vi x.e1)],[(25,cb 1 39 2 (eArr2_i64 x))],2⟩ ?_
  refine WOM_upd (g:=⟨β,D⟩) x.e1 rfl (by kernel_rfl) rfl (by kernel_rfl) hM40 hM3 (by kernel_rfl) (by kernel_rfl) (by kernel_rfl) ?_
  refine Mend ?_
  refine WM_region ?_
  refine Mseg hT 2 [12,13,14,15,98,99,21,22,23,109,110,111] ⟨[(12,po s_Lstring g),(13,.ps .fopt (s_Arr2_i64.F I)),(14,.ps .fopt (s_int.F l)),(15,vi e),(98,vi (ln g)),(99,vi kk),(21,vi kk),(22,.p (.map (some β))),(23,vi i),(109,.ps .fopt (s_Arr2_i64.F I)),(110,vi (ln I)),(111,vi (wr (j + 1)))],[(25,cb 1 39 2 (eArr2_i64 x))],2⟩ ?_
  refine Mend ?_
  exact ⟨q3,by omega,by omega,by omega,putK D x.e1,_,_,_,h,rfl,rfl⟩
end
end Go.Su.Ytkmcnajbhclimaa
