/-
  Programs out of raw numbers, mended: gotos without labels, labels twice are taken out; and what Show says of them.
-/
import Derived.Test.YtepcmciljmennaaZfPlCostC
import Derived.Test.YtepcmciljmennaaZfDxF
import Derived.KernelRfl
namespace Go.Su.Ytepcmciljmennaa
open Go.Mx Go.Proofs
set_option linter.unusedVariables false
set_option linter.unusedSimpArgs false
set_option maxHeartbeats 4000000
theorem nx_bd (w k m B c : Int) (h0 : 0 ≤ w) (m0 : 0 ≤ m) (m9 : m ≤ 9) (hc : 1 ≤ c) (h : w * (c * 9) ≤ B) (hB : B ≤ 1000000000) : 0 ≤ nx w k m ∧ nx w k m * c ≤ B ∧ w ≤ B:=by
 have e : w * (c * 9) = 9 * (w * c):=by rw [Int.mul_comm c 9,← Int.mul_assoc,Int.mul_comm w 9,Int.mul_assoc]
 have hwc : w ≤ w * c:=by
  have:=Int.mul_le_mul_of_nonneg_left hc h0
  omega
 have hm1 : 0 ≤ w * m:=Int.mul_nonneg h0 m0
 have hm2 : w * m ≤ w * 9:=Int.mul_le_mul_of_nonneg_left m9 h0
 have hwr : wr (w * m) = w * m:=wr_of (by omega)
 unfold nx
 cases (k == 8)
 ·exact ⟨h0,by show w * c ≤ B; omega,by omega⟩
 ·refine ⟨by show 0 ≤ wr (w * m); omega,?_,by omega⟩
  show wr (w * m) * c ≤ B
  rw [hwr]
  have : w * m * c ≤ w * 9 * c:=Int.mul_le_mul_of_nonneg_right hm2 (by omega)
  have e2 : w * 9 * c = 9 * (w * c):=by rw [Int.mul_comm w 9,Int.mul_assoc]
  omega
theorem pow9 : ∀ d : Nat,(1 : Int) ≤ 9 ^ d
 | 0=>by simp
 | d + 1=>by have:=pow9 d; rw [Int.pow_succ]; omega
theorem wg_bd (B : Int) (hB : B ≤ 1000000000) : (∀ s : Stmt,∀ (d : Nat) (w : Int),0 ≤ s.N → s.N ≤ 9 → wfl d s.Body → wfl d s.Else → 0 ≤ w → w * (9 ^ d * 9) ≤ B → ∀ v ∈ wgS s w,0 ≤ v ∧ v ≤ B) ∧
  ∀ l : List Stmt,∀ (d : Nat) (w : Int),wfl d l → 0 ≤ w → w * 9 ^ d ≤ B → ∀ v ∈ wgL l w,0 ≤ v ∧ v ≤ B:=by
 refine stmt_ind ?_ (fun d w _ _ _ v hv=>by simp [wgL] at hv) ?_
 ·intro k u o m e b l a hb hl d w m0 m9 h1 h2 h3 h4 v hv
  obtain ⟨n1,n2,n3⟩:=nx_bd w k m B (9 ^ d) h3 m0 m9 (pow9 d) h4 hB
  rw [wgS,List.mem_cons,List.mem_append] at hv
  rcases hv with rfl | hv | hv
  ·exact ⟨h3,n3⟩
  ·exact hb d _ h1 n1 n2 v hv
  ·exact hl d _ h2 n1 n2 v hv
 ·intro s r hs hr d w h h3 h4 v hv
  cases d with
  | zero=>exact absurd (show s :: r = [] from h) (by simp)
  | succ d =>
   rw [wgL,List.mem_append] at hv
   rcases hv with hv | hv
   ·obtain ⟨_,q2,q3,q4,q5⟩:=h s (by simp)
    exact hs d w q2 q3 q4 q5 h3 (by rw [← Int.pow_succ]; exact h4) v hv
   ·exact hr (d + 1) w (fun y hy=>h y (by simp [hy])) h3 h4 v hv
theorem wgT_bd : ∀ ts : List (List Stmt),(∀ t ∈ ts,wfl 8 t) → ∀ v ∈ wgT ts,0 ≤ v ∧ v ≤ 43046721
 | [],_,v,hv=>by simp [wgT] at hv
 | t :: r,h,v,hv=>by
  rw [wgT,List.mem_append] at hv
  rcases hv with hv | hv
  ·exact (wg_bd 43046721 (by omega)).2 t 8 1 (h t (by simp)) (by omega) (by decide) v hv
  ·exact wgT_bd r (fun x hx=>h x (by simp [hx])) v hv
theorem one_add : FloatKind.f64.format.add 4607182418800017408 0 = some 4607182418800017408:=by kernel_rfl
theorem near0 : FloatKind.f64.nearest ((0 : Nat) : Int) = 0:=by kernel_rfl
theorem cadd_nat (a b : Nat) (h : a + b < 2 ^ 53) : cadd ⟨FloatKind.f64.nearest (a : Int),4607182418800017408⟩ ⟨FloatKind.f64.nearest (b : Int),0⟩ = some ⟨FloatKind.f64.nearest ((a + b : Nat) : Int),4607182418800017408⟩:=by
 unfold cadd
 simp only [add_nat a b h,one_add,Option.bind_some]
theorem Upgrade_L0 (p : Prog) (nm : ByteArray) (W : List Int) (S : List Stmt) (hl : W.length = S.length) (hS : S.length ≤ 100000) (hz : ∀ x ∈ S,szE x.E ≤ 1000000) (hW : ∀ v ∈ W,0 ≤ v ∧ v ≤ 43046721) :
  ∀ (m i s : Nat),S.length - i ≤ m → i ≤ S.length → s ≤ 43046721 * i →
   ∃ r : Nat,Ev (fun n=>cost_Upgrade_L0 n p nm W S ⟨FloatKind.f64.nearest (s : Int),4607182418800017408⟩ (i : Int)) ⟨FloatKind.f64.nearest (r : Int),4607182418800017408⟩ ∧ r ≤ 4304672100000
 | m,i,s,h1,h2,h3=>by
  by_cases hi : i < S.length
  ·match m,h1 with
   | 0,h1=>exact absurd h1 (by omega)
   | m + 1,h1 =>
    have d1 : decide ((i : Int) < ln S) = true:=decide_eq_true (by show (i : Int) < (S.length : Int); omega)
    have i1 : idx S (i : Int) = some S[i]:=idx_of (by omega) (by rw [Int.toNat_natCast]; exact List.getElem?_eq_getElem hi)
    have i2 : idx W (i : Int) = some (W[i]'(by omega)):=idx_of (by omega) (by rw [Int.toNat_natCast]; exact List.getElem?_eq_getElem (by omega))
    have e3 : wr ((i : Int) + 1) = ((i + 1 : Nat) : Int):=by rw [wr_of (by omega)]; rfl
    have t1:=touches_ev S[i] [nm] (hz _ (List.getElem_mem hi)) (by simp)
    have hw:=hW _ (List.getElem_mem (show i < W.length by omega))
    obtain ⟨v,hv⟩ : ∃ v : Nat,(W[i]'(by omega)) = (v : Int):=⟨(W[i]'(by omega)).toNat,by omega⟩
    rw [hv] at i2 hw
    have hc:=cadd_nat s v (by omega)
    have b1 : ∀ n,cost_Upgrade_L0 (n + 1) p nm W S ⟨FloatKind.f64.nearest (s : Int),4607182418800017408⟩ (i : Int) = (cost_touches n S[i] [nm]).bind fun r8=>bif r8 then cost_Upgrade_L0 n p nm W S ⟨FloatKind.f64.nearest ((s + v : Nat) : Int),4607182418800017408⟩ ((i + 1 : Nat) : Int) else cost_Upgrade_L0 n p nm W S ⟨FloatKind.f64.nearest (s : Int),4607182418800017408⟩ ((i + 1 : Nat) : Int):=by
     intro n
     simp only [cost_Upgrade_L0,d1,cond_true,i1,i2,Option.bind_some,jn,e3,cost_whole,hc]
    cases c : hit S[i] [nm]
    ·obtain ⟨r,k1,k3⟩:=Upgrade_L0 p nm W S hl hS hz hW m (i + 1) s (by omega) (by omega) (by omega)
     exact ⟨r,Ev.step (Ev.of_eq b1 (Ev.bind t1 (Ev.no c k1))),k3⟩
    ·obtain ⟨r,k1,k3⟩:=Upgrade_L0 p nm W S hl hS hz hW m (i + 1) (s + v) (by omega) (by omega) (by omega)
     exact ⟨r,Ev.step (Ev.of_eq b1 (Ev.bind t1 (Ev.yes c k1))),k3⟩
  ·have d1 : decide ((i : Int) < ln S) = false:=decide_eq_false (by show ¬ (i : Int) < (S.length : Int); omega)
   exact ⟨s,Ev.step (Ev.of_eq (g:=fun n=>some _) (fun n=>by simp only [cost_Upgrade_L0,d1,cond_false]) (Ev.ret _)),by omega⟩
theorem Upgrade_ev (D : List Decl) (ts : List (List Stmt)) (nm : ByteArray) (hz : szT ts ≤ 40000) (hw : ∀ t ∈ ts,wfl 8 t) : ∃ r : Nat,Ev (fun n=>cost_Upgrade n ⟨D,ts⟩ nm) ⟨FloatKind.f64.nearest (r : Int),4607182418800017408⟩ ∧ r ≤ 4304672100000:=by
 have l1:=len_T ts
 obtain ⟨r,k1,k3⟩:=Upgrade_L0 ⟨D,ts⟩ nm (wgT ts) (flats ts) (wgT_len ts) (by omega) (fun x hx=>by
  have h1:=sz_flats ts x hx
  have : ∀ s : Stmt,szE s.E ≤ szS s:=by intro s; cases s; simp only [szS]; omega
  have:=this x; omega) (wgT_bd ts hw) (flats ts).length 0 0 (by omega) (by omega) (by omega)
 rw [near0] at k1
 exact ⟨r,Ev.of_eq (g:=fun n=>(cost_Weights n ⟨D,ts⟩).bind fun r1=>(tree_List n ⟨D,ts⟩).bind fun r2=>cost_Upgrade_L0 n ⟨D,ts⟩ nm r1 r2 ⟨0,4607182418800017408⟩ 0) (fun n=>by simp only [cost_Upgrade]) (Ev.bind (Weights_ev D ts (by omega)) (Ev.bind (List_ev D ts (by omega)) k1)),k3⟩
end Go.Su.Ytepcmciljmennaa
namespace Go.Su.Ytepcmciljmennaa
open Go.Mx Go.Proofs
set_option linter.unusedVariables false
set_option linter.unusedSimpArgs false
set_option maxHeartbeats 4000000
def wrp (r : List Stmt) (nm : List ByteArray) : Nat → Nat → List Nat
 | 0,_=>[]
 | m + 1,i=>match r[i]? with
  | none=>[]
  | some s=>bif hit s nm then i :: wrp r nm m (i + (wn s + 1)) else wrp r nm m (i + 1)
theorem wrp_L0 (p : Prog) (nm : List ByteArray) (hn : nm.length ≤ 4000000) (r1 : List Stmt) (hr : r1.length ≤ 900000) (hz : ∀ x ∈ r1,szS x ≤ 900000) : ∀ (m i : Nat) (acc : List Int),r1.length - i ≤ m → i ≤ 2000000 → acc.length + (r1.length - i) ≤ 1000000 →
  Ev (fun n=>cost_Wrapped_L0 n p nm r1 acc (i : Int)) (acc ++ (wrp r1 nm m i).map fun (k : Nat)=>(k : Int))
 | m,i,acc,h1,h2,h3=>by
  by_cases hi : i < r1.length
  ·match m,h1 with
   | 0,h1=>exact absurd h1 (by omega)
   | m + 1,h1 =>
    have d1 : decide ((i : Int) < ln r1) = true:=decide_eq_true (by show (i : Int) < (r1.length : Int); omega)
    have g1 : r1[i]? = some r1[i]:=List.getElem?_eq_getElem hi
    have i1 : idx r1 (i : Int) = some r1[i]:=idx_of (by omega) (by rw [Int.toNat_natCast]; exact g1)
    have hs:=hz _ (List.getElem_mem hi)
    have hE : szE r1[i].E ≤ 1000000:=by
     have : ∀ s : Stmt,szE s.E ≤ szS s:=by intro s; cases s; simp only [szS]; omega
     have:=this r1[i]; omega
    have hw:=flat_len.1 r1[i]
    rw [fl1_len] at hw
    have t1:=touches_ev r1[i] nm hE hn
    rw [wrp,g1]
    cases c : hit r1[i] nm
    ·have k1:=wrp_L0 p nm hn r1 hr hz m (i + 1) acc (by omega) (by omega) (by omega)
     have e3 : wr ((i : Int) + 1) = ((i + 1 : Nat) : Int):=by rw [wr_of (by omega)]; rfl
     refine Ev.step (Ev.of_eq (g:=fun n=>(cost_touches n r1[i] nm).bind fun r5=>bif r5 then (bif room s_int.i1.bytes acc.length [(i : Int)].length then (cost_size n r1[i]).bind fun r8=>cost_Wrapped_L0 n p nm r1 (acc ++ [(i : Int)]) (wr ((i : Int) + r8)) else none) else cost_Wrapped_L0 n p nm r1 acc ((i + 1 : Nat) : Int)) (fun n=>?_) (Ev.bind t1 (Ev.no c (by simpa [c] using k1))))
     simp only [cost_Wrapped_L0,d1,cond_true,i1,Option.bind_some,e3]
    ·have k1:=wrp_L0 p nm hn r1 hr hz m (i + (wn r1[i] + 1)) (acc ++ [(i : Int)]) (by omega) (by omega) (by simp; omega)
     have e3 : wr ((i : Int) + ((wn r1[i] + 1 : Nat) : Int)) = ((i + (wn r1[i] + 1) : Nat) : Int):=by rw [wr_of (by omega)]; omega
     have q1:=size_ev r1[i] (by omega)
     have rm : room s_int.i1.bytes acc.length [(i : Int)].length = true:=roomC _ _ (by simp; omega)
     refine Ev.step (Ev.of_eq (g:=fun n=>(cost_touches n r1[i] nm).bind fun r5=>bif r5 then (bif room s_int.i1.bytes acc.length [(i : Int)].length then (cost_size n r1[i]).bind fun r8=>cost_Wrapped_L0 n p nm r1 (acc ++ [(i : Int)]) (wr ((i : Int) + r8)) else none) else cost_Wrapped_L0 n p nm r1 acc (wr ((i : Int) + 1))) (fun n=>?_) (Ev.bind t1 (Ev.yes c (Ev.yes rm (Ev.bind q1 (by rw [e3]; simpa [c] using k1))))))
     simp only [cost_Wrapped_L0,d1,cond_true,i1,Option.bind_some]
  ·have d1 : decide ((i : Int) < ln r1) = false:=decide_eq_false (by show ¬ (i : Int) < (r1.length : Int); omega)
   have hc : ∀ n,Clip_int n acc = some acc:=fun n=>by simp only [Clip_int,sub_all,Option.bind_some]
   have g1 : r1[i]? = none:=List.getElem?_eq_none (by omega)
   have e : wrp r1 nm m i = []:=by cases m <;> simp [wrp,g1]
   rw [e]
   exact Ev.step (Ev.of_eq (g:=fun n=>some acc) (fun n=>by simp only [cost_Wrapped_L0,d1,cond_false,hc,Option.bind_some]) (by simpa using Ev.ret acc))
theorem wrp_ev (D : List Decl) (ts : List (List Stmt)) (nm : List ByteArray) (hn : nm.length ≤ 4000000) (hz : szT ts ≤ 100000) : Ev (fun n=>cost_Wrapped n ⟨D,ts⟩ nm) ((wrp (flats ts) nm (flats ts).length 0).map fun (k : Nat)=>(k : Int)):=by
 have l1:=len_T ts
 have k1:=wrp_L0 ⟨D,ts⟩ nm hn (flats ts) (by omega) (fun x hx=>by have:=sz_flats ts x hx; omega) (flats ts).length 0 [] (by omega) (by omega) (by simp; omega)
 exact Ev.of_eq (g:=fun n=>(tree_List n ⟨D,ts⟩).bind fun r1=>cost_Wrapped_L0 n ⟨D,ts⟩ nm r1 [] 0) (fun n=>by simp only [cost_Wrapped]) (Ev.bind (List_ev D ts (by omega)) k1)
theorem wrp_lo (r : List Stmt) (nm : List ByteArray) : ∀ (m i k : Nat),k ∈ wrp r nm m i → i ≤ k ∧ ∃ s,r[k]? = some s ∧ hit s nm = true
 | 0,i,k,h=>by simp [wrp] at h
 | m + 1,i,k,h=>by
  rw [wrp] at h
  cases g : r[i]? with
  | none=>rw [g] at h; simp at h
  | some s =>
   rw [g] at h
   cases c : hit s nm
   ·simp only [c,cond_false] at h
    have:=wrp_lo r nm m (i + 1) k h
    exact ⟨by omega,this.2⟩
   ·simp only [c,cond_true] at h
    rcases List.mem_cons.1 h with rfl | h
    ·exact ⟨Nat.le_refl _,s,g,c⟩
    ·have:=wrp_lo r nm m (i + (wn s + 1)) k h
     exact ⟨by omega,this.2⟩
end Go.Su.Ytepcmciljmennaa
namespace Go.Su.Ytepcmciljmennaa
open Go.Mx Go.Proofs
set_option linter.unusedVariables false
set_option linter.unusedSimpArgs false
set_option maxHeartbeats 4000000
theorem near2 : FloatKind.f64.nearest ((2 : Nat) : Int) = 4611686018427387904:=by kernel_rfl
theorem mul00 : FloatKind.f64.format.mul 0 0 = some 0:=by kernel_rfl
theorem mul20 : FloatKind.f64.format.mul 4611686018427387904 0 = some 0:=by kernel_rfl
theorem add00 : FloatKind.f64.format.add 0 0 = some 0:=by kernel_rfl
theorem cmul_nat (v : Nat) (h : 2 * v < 2 ^ 53) : cmul ⟨4611686018427387904,0⟩ ⟨FloatKind.f64.nearest (v : Int),0⟩ = some ⟨FloatKind.f64.nearest ((2 * v : Nat) : Int),0⟩:=by
 have e1 : FloatKind.f64.format.mul 4611686018427387904 (FloatKind.f64.nearest (v : Int)) = some (FloatKind.f64.nearest ((2 * v : Nat) : Int)):=by
  rw [← near2]; exact mul_nat 2 v (by omega) (by omega) h
 have e2 : FloatKind.f64.format.mul 0 (FloatKind.f64.nearest (v : Int)) = some 0:=by
  have:=mul_nat 0 v (by omega) (by omega) (by omega)
  rw [Nat.zero_mul,near0] at this; exact this
 have e3:=sub_zero_nat (2 * v) h
 unfold cmul
 simp only [e1,mul00,e3,mul20,e2,add00,Option.bind_some]
def gsum (W : List Int) : List Nat → Nat
 | []=>0
 | k :: r=>2 * (W.getD k 0).toNat + gsum W r
theorem getD_bd (W : List Int) (hW : ∀ v ∈ W,0 ≤ v ∧ v ≤ 43046721) (k : Nat) (hk : k < W.length) : ∃ v : Nat,idx W (k : Int) = some (v : Int) ∧ (W.getD k 0).toNat = v ∧ v ≤ 43046721:=by
 have i2 : idx W (k : Int) = some (W[k]'hk):=idx_of (by omega) (by rw [Int.toNat_natCast]; exact List.getElem?_eq_getElem hk)
 have hw:=hW _ (List.getElem_mem hk)
 refine ⟨(W[k]'hk).toNat,by rw [i2]; congr 1; omega,by simp [List.getD_eq_getElem?_getD,hk],by omega⟩
theorem gsum_le (W : List Int) (hW : ∀ v ∈ W,0 ≤ v ∧ v ≤ 43046721) : ∀ L : List Nat,(∀ k ∈ L,k < W.length) → gsum W L ≤ 86093442 * L.length
 | [],_=>by simp [gsum]
 | k :: r,h=>by
  obtain ⟨v,_,h2,h3⟩:=getD_bd W hW k (h k (by simp))
  have:=gsum_le W hW r fun x hx=>h x (by simp [hx])
  rw [gsum,h2,List.length_cons]; omega
theorem Guard_L0 (p : Prog) (nm : List ByteArray) (W : List Int) (hW : ∀ v ∈ W,0 ≤ v ∧ v ≤ 43046721) (L : List Nat) (hL : L.length ≤ 1000000) (hk : ∀ k ∈ L,k < W.length) :
  ∀ (l pre : List Nat) (s : Nat),L = pre ++ l → s ≤ 86093442 * pre.length → Ev (fun n=>cost_Guard_L0 n p nm W (L.map fun (k : Nat)=>(k : Int)) ⟨FloatKind.f64.nearest (s : Int),4607182418800017408⟩ pre.length) ⟨FloatKind.f64.nearest ((s + gsum W l : Nat) : Int),4607182418800017408⟩
 | [],pre,s,e,hs=>by
  rw [List.append_nil] at e
  subst e
  have d1 : decide ((L.length : Int) < ln (L.map fun (k : Nat)=>(k : Int))) = false:=decide_eq_false (by show ¬ (L.length : Int) < (((L.map fun (k : Nat)=>(k : Int)).length : Nat) : Int); simp)
  exact Ev.step (Ev.of_eq (g:=fun n=>some ⟨FloatKind.f64.nearest (s : Int),4607182418800017408⟩) (fun n=>by simp only [cost_Guard_L0,d1,cond_false]) (by simpa [gsum] using Ev.ret _))
 | k :: r,pre,s,e,hs=>by
  have hp : pre.length + 1 ≤ 1000000:=by rw [e] at hL; simp at hL; omega
  have d1 : decide ((pre.length : Int) < ln (L.map fun (k : Nat)=>(k : Int))) = true:=decide_eq_true (by show (pre.length : Int) < (((L.map fun (k : Nat)=>(k : Int)).length : Nat) : Int); rw [e]; simp; omega)
  have i1 : idx (L.map fun (k : Nat)=>(k : Int)) (pre.length : Int) = some (k : Int):=idx_of (by omega) (by rw [Int.toNat_natCast,e]; simp)
  obtain ⟨v,i2,h2,h3⟩:=getD_bd W hW k (hk k (by rw [e]; simp))
  have e3 : wr ((pre.length : Int) + 1) = ((pre ++ [k]).length : Int):=ix_wr pre k (by omega)
  have hm:=cmul_nat v (by omega)
  have hc:=cadd_nat s (2 * v) (by omega)
  have nx:=Guard_L0 p nm W hW L hL hk r (pre ++ [k]) (s + 2 * v) (by rw [e]; exact ix_cons _ _ _) (by simp; omega)
  rw [gsum,h2,← Nat.add_assoc]
  refine Ev.step (Ev.of_eq (fun n=>?_) nx)
  simp only [cost_Guard_L0,d1,cond_true,i1,i2,Option.bind_some,cost_whole,hm,hc,e3]
theorem wrp_len (S : List Stmt) (nm : List ByteArray) : ∀ m i,(wrp S nm m i).length ≤ m
 | 0,i=>by simp [wrp]
 | m + 1,i=>by
  rw [wrp]
  cases g : S[i]? with
  | none=>simp
  | some s =>
   cases c : hit s nm
   ·simp only [c,cond_false]; have:=wrp_len S nm m (i + 1); omega
   ·simp only [c,cond_true,List.length_cons]; have:=wrp_len S nm m (i + (wn s + 1)); omega
theorem wrp_mem (S : List Stmt) (nm : List ByteArray) (m i k : Nat) (hk : k ∈ wrp S nm m i) : k < S.length:=by
 obtain ⟨_,s,hs,_⟩:=wrp_lo _ _ _ _ _ hk
 exact (List.getElem?_eq_some_iff.1 hs).1
def gw (ts : List (List Stmt)) (nm : List ByteArray) : Nat:=gsum (wgT ts) (wrp (flats ts) nm (flats ts).length 0)
theorem Guard_ev (D : List Decl) (ts : List (List Stmt)) (nm : List ByteArray) (hn : nm.length ≤ 4000000) (hz : szT ts ≤ 40000) (hw : ∀ t ∈ ts,wfl 8 t) : Ev (fun n=>cost_Guard n ⟨D,ts⟩ nm) ⟨FloatKind.f64.nearest ((gw ts nm : Nat) : Int),4607182418800017408⟩ ∧ gw ts nm ≤ 8609344200000:=by
 have l1:=len_T ts
 have w1:=wrp_ev D ts nm hn (by omega)
 have hl:=wrp_len (flats ts) nm (flats ts).length 0
 have hm : ∀ k ∈ wrp (flats ts) nm (flats ts).length 0,k < (wgT ts).length:=fun k hk=>by rw [wgT_len]; exact wrp_mem _ _ _ _ _ hk
 have k1:=Guard_L0 ⟨D,ts⟩ nm (wgT ts) (wgT_bd ts hw) _ (by omega) hm _ [] 0 rfl (by simp)
 have k2:=gsum_le (wgT ts) (wgT_bd ts hw) _ hm
 rw [near0,Nat.zero_add] at k1
 exact ⟨Ev.of_eq (g:=fun n=>(cost_Weights n ⟨D,ts⟩).bind fun r1=>(cost_Wrapped n ⟨D,ts⟩ nm).bind fun r2=>cost_Guard_L0 n ⟨D,ts⟩ nm r1 r2 ⟨0,4607182418800017408⟩ 0) (fun n=>by simp only [cost_Guard]) (Ev.bind (Weights_ev D ts (by omega)) (Ev.bind w1 k1)),by unfold gw; omega⟩
end Go.Su.Ytepcmciljmennaa
namespace Go.Su.Ytepcmciljmennaa
open Go.Mx Go.Proofs
set_option linter.unusedVariables false
set_option linter.unusedSimpArgs false
set_option maxHeartbeats 4000000
theorem roomCa (a b : Nat) (h : a + b ≤ 1000) : room s_Cand.i1.bytes a b = true:=room_of (by
 have : s_Cand.i1.bytes ≤ 1000:=by decide
 have:=Nat.mul_le_mul h this
 omega)
theorem shl24 : ((List.range 24).all fun k=>(match ishl .i64 1 (IntKind.u64.wrap (k : Nat)) with | some p=>p == (2 ^ k : Nat) | none=>false)) = true:=by kernel_rfl
theorem shl_of (k : Nat) (h : k < 24) : ishl .i64 1 (IntKind.u64.wrap (k : Int)) = some ((2 ^ k : Nat) : Int):=by
 have:=(List.all_eq_true.1 shl24) k (List.mem_range.2 h)
 cases e : ishl .i64 1 (IntKind.u64.wrap (k : Nat)) with
 | none=>rw [e] at this; cases this
 | some p=>rw [e] at this; rw [eq_of_beq this]
def bitK (a : Int) (k : Nat) : Bool:=((wr (a.tdiv ((2 ^ k : Nat) : Int))).tmod 2) != 0
def rcy (a : Int) : List Decl → Nat → List Int
 | [],_=>[]
 | d :: r,k=>(bif decide (d.Kind ≤ 2) && bitK a k then [(k : Int)] else []) ++ rcy a r (k + 1)
theorem racy_L0 (D : List Decl) (ts : List (List Stmt)) (a : Int) (hD : D.length ≤ 24) : ∀ (l pre : List Decl) (acc : List Int),D = pre ++ l → acc.length ≤ pre.length → Ev (fun n=>law23_racy_L0 n ⟨D,ts⟩ a acc pre.length) (acc ++ rcy a l pre.length)
 | [],pre,acc,e,h=>by
  rw [List.append_nil] at e
  exact Ev.step (Ev.of_eq (g:=fun n=>some acc) (fun n=>by simp only [law23_racy_L0,e,ix_ge,cond_false]) (by simpa [rcy] using Ev.ret acc))
 | d :: r,pre,acc,e,h=>by
  have hp : pre.length < 24:=by rw [e] at hD; simp at hD; omega
  have sh:=shl_of pre.length hp
  have p0 : ((((2 ^ pre.length : Nat) : Int)) == 0) = false:=by
   have:=Nat.pow_pos (n:=pre.length) (show 0 < 2 by omega)
   exact beq_eq_false_iff_ne.2 (fun q=>by have:=Int.ofNat_eq_zero.1 q; omega)
  have rm : room s_int.i1.bytes acc.length [(pre.length : Int)].length = true:=roomC _ _ (by simp; omega)
  have hb : (((wr (a.tdiv ((2 ^ pre.length : Nat) : Int))).tmod 2) != 0) = bitK a pre.length:=rfl
  have nx : ∀ acc' : List Int,acc'.length ≤ pre.length + 1 → Ev (fun n=>law23_racy_L0 n ⟨D,ts⟩ a acc' ((pre ++ [d]).length)) (acc' ++ rcy a r (pre.length + 1)):=fun acc' h'=>by
   have:=racy_L0 D ts a hD r (pre ++ [d]) acc' (by rw [e]; exact ix_cons _ _ _) (by simp; omega)
   simpa using this
  rw [rcy]
  have w:=ix_wr pre d (by omega)
  have d1 : decide ((pre.length : Int) < ln D) = true:=by rw [e]; exact ix_lt _ _ _
  have g1 : idx D (pre.length : Int) = some d:=by rw [e]; exact ix_get _ _ _
  cases c1 : decide (d.Kind ≤ 2)
  ·refine Ev.step (Ev.of_eq (fun n=>?_) (by simpa only [Bool.false_and,Bool.and_false,cond_false,List.nil_append] using nx acc (by omega)))
   simp only [law23_racy_L0,d1,g1,jn,cond_true,cond_false,Option.bind_some,c1,w]
  ·cases c2 : bitK a pre.length
   ·refine Ev.step (Ev.of_eq (fun n=>?_) (by simpa only [Bool.false_and,Bool.and_false,cond_false,List.nil_append] using nx acc (by omega)))
    simp only [law23_racy_L0,d1,g1,jn,cond_true,cond_false,Option.bind_some,c1,w,sh,p0,hb,c2]
   ·refine Ev.step (Ev.of_eq (fun n=>?_) (by simpa only [Bool.true_and,cond_true,List.append_assoc] using nx (acc ++ [(pre.length : Int)]) (by simp; omega)))
    simp only [law23_racy_L0,d1,g1,jn,cond_true,cond_false,Option.bind_some,c1,w,sh,p0,hb,c2,rm]
theorem racy_ev (D : List Decl) (ts : List (List Stmt)) (a : Int) (hD : D.length ≤ 24) : Ev (fun n=>law23_racy n ⟨D,ts⟩ a) (rcy a D 0) :=
 Ev.of_eq (fun n=>by simp only [law23_racy]; rfl) (by simpa using racy_L0 D ts a hD D [] [] rfl (by simp))
def SetsOk (r : List Int) (ss : List (List Int)) : Prop:=(∀ s ∈ ss,∀ v ∈ s,v ∈ r) ∧ ss.filter (fun s=>s.length == 1) = r.map (fun v=>[v]) ∧ ss.length ≤ 100 ∧ ∀ s ∈ ss,s.length ≤ 8
def nm1 (D : List Decl) (v : Int) : ByteArray:=match D[v.toNat]? with
 | some d=>d.Name
 | none=>ByteArray.empty
def pln (D : List Decl) (v : Int) : Bool:=match D[v.toNat]? with
 | some d=>d.Kind == 1
 | none=>false
def InD (D : List Decl) (r : List Int) : Prop:=∀ v ∈ r,∃ k : Nat,v = (k : Int) ∧ k < D.length
theorem inD_get {D : List Decl} {v : Int} (h : ∃ k : Nat,v = (k : Int) ∧ k < D.length) : ∃ d,idx D v = some d ∧ nm1 D v = d.Name ∧ pln D v = (d.Kind == 1):=by
 obtain ⟨k,rfl,hk⟩:=h
 have g : D[k]? = some D[k]:=List.getElem?_eq_getElem hk
 exact ⟨D[k],idx_of (by omega) (by rw [Int.toNat_natCast]; exact g),by simp [nm1,g],by simp [pln,g]⟩
theorem named_L0 (D : List Decl) (ts : List (List Stmt)) (s : List Int) (hs : s.length ≤ 100) (hi : InD D s) : ∀ (l pre : List Int),s = pre ++ l → Ev (fun n=>cands_named_L0 n ⟨D,ts⟩ s (pre.map (nm1 D)) pre.length) (s.map (nm1 D))
 | [],pre,e=>by
  rw [List.append_nil] at e
  subst e
  exact Ev.step (Ev.of_eq (g:=fun n=>some (s.map (nm1 D))) (fun n=>by simp only [cands_named_L0,ix_ge,cond_false]) (Ev.ret _))
 | x :: r,pre,e=>by
  have hp : pre.length + 1 ≤ 100:=by rw [e] at hs; simp at hs; omega
  obtain ⟨d,g,hn,_⟩:=inD_get (hi x (by rw [e]; simp))
  have rm : room s_string.i1.bytes (pre.map (nm1 D)).length [d.Name].length = true:=roomW _ _ (by simp; omega)
  have nx:=named_L0 D ts s hs hi r (pre ++ [x]) (by rw [e]; exact ix_cons _ _ _)
  rw [List.map_append,List.map_singleton,hn] at nx
  have d1 : decide ((pre.length : Int) < ln s) = true:=by rw [e]; exact ix_lt _ _ _
  have g1 : idx s (pre.length : Int) = some x:=by rw [e]; exact ix_get _ _ _
  refine Ev.step (Ev.of_eq (fun n=>?_) nx)
  simp only [cands_named_L0,d1,g1,g,rm,cond_true,Option.bind_some]
  rw [ix_wr pre x (by omega)]
theorem named_ev (D : List Decl) (ts : List (List Stmt)) (s : List Int) (hs : s.length ≤ 100) (hi : InD D s) : Ev (fun n=>cands_named n ⟨D,ts⟩ s) (s.map (nm1 D)) :=
 Ev.of_eq (fun n=>by simp only [cands_named]; rfl) (named_L0 D ts s hs hi s [] rfl)
def gc (D : List Decl) (ts : List (List Stmt)) (s : List Int) : Cand:=⟨true,s,⟨FloatKind.f64.nearest ((gw ts (s.map (nm1 D)) : Nat) : Int),4607182418800017408⟩⟩
theorem Of_L1 (D : List Decl) (ts : List (List Stmt)) (r : List Int) (l1 : List Cand) (i2 : Int) (ss : List (List Int)) (hz : szT ts ≤ 40000) (hw : ∀ t ∈ ts,wfl 8 t) (h1 : ss.length ≤ 100) (h8 : ∀ s ∈ ss,s.length ≤ 8) (hi : ∀ s ∈ ss,InD D s) :
  ∀ (l pre : List (List Int)) (acc : List Cand),ss = pre ++ l → acc.length ≤ pre.length + 100 → Ev (fun n=>cands_Of_L1 n ⟨D,ts⟩ r l1 i2 ss acc pre.length) (acc ++ l.map (gc D ts))
 | [],pre,acc,e,h=>by
  rw [List.append_nil] at e
  subst e
  have hs : ∀ n,Clip_Cand n acc = some acc:=fun n=>by simp only [Clip_Cand,sub_all,Option.bind_some]
  exact Ev.step (Ev.of_eq (g:=fun n=>some acc) (fun n=>by simp only [cands_Of_L1,ix_ge,cond_false,hs,Option.bind_some]) (by simpa using Ev.ret acc))
 | s :: t,pre,acc,e,h=>by
  have hp : pre.length + 1 ≤ 100:=by rw [e] at h1; simp at h1; omega
  have hs8:=h8 s (by rw [e]; simp)
  have hsi:=hi s (by rw [e]; simp)
  have d1 : decide ((pre.length : Int) < ln ss) = true:=by rw [e]; exact ix_lt _ _ _
  have g1 : idx ss (pre.length : Int) = some s:=by rw [e]; exact ix_get _ _ _
  have rm0 : room s_int.i1.bytes ([] : List Int).length s.length = true:=roomC _ _ (by simp; omega)
  have cl : ∀ n,Clone_int n s = some s:=fun n=>by simp only [Clone_int,rm0,cond_true,List.nil_append]
  have cp : ∀ n,Clip_int n s = some s:=fun n=>by simp only [Clip_int,sub_all,Option.bind_some]
  obtain ⟨k1,_⟩:=Guard_ev D ts (s.map (nm1 D)) (by simp; omega) hz hw
  have rm : ∀ c : Cand,room s_Cand.i1.bytes acc.length [c].length = true:=fun c=>roomCa _ _ (by simp; omega)
  have nx:=Of_L1 D ts r l1 i2 ss hz hw h1 h8 hi t (pre ++ [s]) (acc ++ [gc D ts s]) (by rw [e]; exact ix_cons _ _ _) (by simp; omega)
  rw [List.append_assoc,List.singleton_append,← List.map_cons] at nx
  refine Ev.step (Ev.of_eq (g:=fun n=>(cands_named n ⟨D,ts⟩ s).bind fun r19=>(cost_Guard n ⟨D,ts⟩ r19).bind fun r20=>bif room s_Cand.i1.bytes acc.length [(Cand.mk true s r20)].length then cands_Of_L1 n ⟨D,ts⟩ r l1 i2 ss (acc ++ [(Cand.mk true s r20)]) ((pre ++ [s]).length) else none) (fun n=>?_) (Ev.bind (named_ev D ts s (by omega) hsi) (Ev.bind k1 (Ev.yes (rm _) nx))))
  simp only [cands_Of_L1,d1,g1,cl,cp,cond_true,Option.bind_some]
  rw [ix_wr pre s (by omega)]
theorem wide_L0 (D : List Decl) (ts : List (List Stmt)) (r : List Int) (h8 : r.length ≤ 100) (hi : InD D r) : ∀ (l pre : List Int),r = pre ++ l → ∃ v,Ev (fun n=>IndexFunc_int_fcands_Of_2_L0 n r ⟨D,ts⟩ pre.length) v
 | [],pre,e=>by
  rw [List.append_nil] at e
  subst e
  exact ⟨-1,Ev.step (Ev.of_eq (g:=fun n=>some (-1)) (fun n=>by simp only [IndexFunc_int_fcands_Of_2_L0,ix_ge,cond_false]) (Ev.ret _))⟩
 | x :: t,pre,e=>by
  have hp : pre.length + 1 ≤ 100:=by rw [e] at h8; simp at h8; omega
  obtain ⟨d,g,_,_⟩:=inD_get (hi x (by rw [e]; simp))
  have d1 : decide ((pre.length : Int) < ln r) = true:=by rw [e]; exact ix_lt _ _ _
  have g1 : idx r (pre.length : Int) = some x:=by rw [e]; exact ix_get _ _ _
  obtain ⟨v,nx⟩:=wide_L0 D ts r h8 hi t (pre ++ [x]) (by rw [e]; exact ix_cons _ _ _)
  cases c : (d.Kind == 1)
  ·refine ⟨pre.length,Ev.step (Ev.of_eq (g:=fun n=>some (pre.length : Int)) (fun n=>?_) (Ev.ret _))⟩
   simp only [IndexFunc_int_fcands_Of_2_L0,d1,g1,cands_Of_2,cands_Of_1,g,c,cond_true,Option.bind_some,Bool.not_false]
  ·refine ⟨v,Ev.step (Ev.of_eq (fun n=>?_) nx)⟩
   simp only [IndexFunc_int_fcands_Of_2_L0,d1,g1,cands_Of_2,cands_Of_1,g,c,cond_true,cond_false,Option.bind_some,Bool.not_true]
   rw [ix_wr pre x (by omega)]
theorem wide_ev (D : List Decl) (ts : List (List Stmt)) (r : List Int) (h8 : r.length ≤ 100) (hi : InD D r) : ∃ b,Ev (fun n=>ContainsFunc_int_fcands_Of_2 n r ⟨D,ts⟩) b:=by
 obtain ⟨v,hv⟩:=wide_L0 D ts r h8 hi r [] rfl
 exact ⟨_,Ev.of_eq (g:=fun n=>(IndexFunc_int_fcands_Of_2_L0 n r ⟨D,ts⟩ 0).bind fun r1=>some (decide (r1 ≥ 0))) (fun n=>by simp only [ContainsFunc_int_fcands_Of_2,IndexFunc_int_fcands_Of_2]) (Ev.bind hv (Ev.ret _))⟩
def UpOk (D : List Decl) (ups : List Cand) (l : List Int) : Prop:=ups.map (fun c=>(c.Guard,c.Names)) = (l.filter (pln D)).map fun v=>(false,[v])
theorem Of_L0 (D : List Decl) (ts : List (List Stmt)) (r : List Int) (ss : List (List Int)) (hz : szT ts ≤ 40000) (hw : ∀ t ∈ ts,wfl 8 t) (hr : r.length ≤ 8) (hi : InD D r) (hss : Ev (fun n=>cands_sets n r) ss) (hok : SetsOk r ss) :
  ∀ (l pre : List Int) (ups : List Cand),r = pre ++ l → ups.length ≤ pre.length → UpOk D ups pre → ∃ ups',UpOk D ups' r ∧ ups'.length ≤ 8 ∧ Ev (fun n=>cands_Of_L0 n ⟨D,ts⟩ r ups pre.length) (ups' ++ ss.map (gc D ts))
 | [],pre,ups,e,h,ho=>by
  rw [List.append_nil] at e
  subst e
  obtain ⟨o1,o2,o3,o4⟩:=hok
  have k1:=Of_L1 D ts r ups (r.length : Int) ss hz hw o3 o4 (fun s hs v hv=>hi v (o1 s hs v hv)) ss [] ups rfl (by simp; omega)
  exact ⟨ups,ho,by omega,Ev.step (Ev.of_eq (g:=fun n=>(cands_sets n r).bind fun r13=>cands_Of_L1 n ⟨D,ts⟩ r ups (r.length : Int) r13 ups 0) (fun n=>by simp only [cands_Of_L0,ix_ge,cond_false]) (Ev.bind hss k1))⟩
 | x :: t,pre,ups,e,h,ho=>by
  have hp : pre.length + 1 ≤ 8:=by rw [e] at hr; simp at hr; omega
  obtain ⟨d,g,hn,hpl⟩:=inD_get (hi x (by rw [e]; simp))
  have d1 : decide ((pre.length : Int) < ln r) = true:=by rw [e]; exact ix_lt _ _ _
  have g1 : idx r (pre.length : Int) = some x:=by rw [e]; exact ix_get _ _ _
  have d8 : decide (ln r ≤ 8) = true:=decide_eq_true (by show ((r.length : Nat) : Int) ≤ 8; omega)
  obtain ⟨b,hb⟩:=wide_ev D ts r (by omega) hi
  cases c : (d.Kind == 1)
  ·obtain ⟨ups',k1,k2,k3⟩:=Of_L0 D ts r ss hz hw hr hi hss hok t (pre ++ [x]) ups (by rw [e]; exact ix_cons _ _ _) (by simp; omega) (by
    unfold UpOk at ho ⊢
    rw [ho,List.filter_append,List.filter_cons_of_neg (by rw [hpl,c]; simp),List.filter_nil,List.append_nil])
   refine ⟨ups',k1,k2,Ev.step (Ev.of_eq (g:=fun n=>(ContainsFunc_int_fcands_Of_2 n r ⟨D,ts⟩).bind fun r6=>cands_Of_L0 n ⟨D,ts⟩ r ups ((pre ++ [x]).length)) (fun n=>?_) (Ev.bind hb k3))⟩
   simp only [cands_Of_L0,d1,g1,jn,cands_Of_1,g,c,cond_true,cond_false,Option.bind_some]
   rw [ix_wr pre x (by omega)]
  ·obtain ⟨u,hu,_⟩:=Upgrade_ev D ts d.Name hz hw
   have rm : ∀ c : Cand,room s_Cand.i1.bytes ups.length [c].length = true:=fun c=>roomCa _ _ (by simp; omega)
   obtain ⟨ups',k1,k2,k3⟩:=Of_L0 D ts r ss hz hw hr hi hss hok t (pre ++ [x]) (ups ++ [⟨false,[x],⟨FloatKind.f64.nearest (u : Int),4607182418800017408⟩⟩]) (by rw [e]; exact ix_cons _ _ _) (by simp; omega) (by
    unfold UpOk at ho ⊢
    rw [List.map_append,ho,List.filter_append,List.map_append,List.filter_cons_of_pos (by rw [hpl,c]),List.filter_nil]; rfl)
   refine ⟨ups',k1,k2,Ev.step (Ev.of_eq (g:=fun n=>(ContainsFunc_int_fcands_Of_2 n r ⟨D,ts⟩).bind fun r6=>(cost_Upgrade n ⟨D,ts⟩ d.Name).bind fun r11=>bif room s_Cand.i1.bytes ups.length [(Cand.mk false [x] r11)].length then cands_Of_L0 n ⟨D,ts⟩ r (ups ++ [(Cand.mk false [x] r11)]) ((pre ++ [x]).length) else none) (fun n=>?_) (Ev.bind hb (Ev.bind hu (Ev.yes (rm _) k3))))⟩
   simp only [cands_Of_L0,d1,g1,jn,cands_Of_1,g,c,d8,cond_true,cond_false,Option.bind_some]
   rw [ix_wr pre x (by omega)]
theorem Of_ev (D : List Decl) (ts : List (List Stmt)) (r : List Int) (ss : List (List Int)) (hz : szT ts ≤ 40000) (hw : ∀ t ∈ ts,wfl 8 t) (hr : r.length ≤ 8) (hi : InD D r) (hss : Ev (fun n=>cands_sets n r) ss) (hok : SetsOk r ss) :
  ∃ ups,UpOk D ups r ∧ ups.length ≤ 8 ∧ Ev (fun n=>cands_Of n ⟨D,ts⟩ r) (ups ++ ss.map (gc D ts)):=by
 obtain ⟨ups,h1,h2,h3⟩:=Of_L0 D ts r ss hz hw hr hi hss hok r [] [] rfl (by simp) rfl
 exact ⟨ups,h1,h2,Ev.of_eq (fun n=>by simp only [cands_Of]; rfl) h3⟩
end Go.Su.Ytepcmciljmennaa
namespace Go.Su.Ytepcmciljmennaa
open Go.Mx Go.Proofs
set_option linter.unusedVariables false
set_option linter.unusedSimpArgs false
set_option maxHeartbeats 4000000
theorem sroom_of {a b : ByteArray} (h : a.size + b.size ≤ 9223372036854775807) : sroom a b = true:=by
 unfold sroom
 have : ¬ (((a.size + b.size : Nat) : Int) > IntKind.i64.max):=by
  have e : IntKind.i64.max = 9223372036854775807:=rfl
  rw [e]; omega
 rw [decide_eq_false this]; rfl
theorem size_app (a b : ByteArray) : (a ++ b).size = a.size + b.size:=ByteArray.size_append
end Go.Su.Ytepcmciljmennaa
namespace Go.Su.Ytepcmciljmennaa
open Go.Mx Go.Proofs
set_option linter.unusedVariables false
set_option linter.unusedSimpArgs false
set_option maxHeartbeats 4000000
theorem f2iN : ((List.range 3001).all fun k=>f2i (FloatKind.f64.nearest (k : Nat)) == some (k : Int)) = true:=by kernel_rfl
theorem f2i_of (k : Nat) (h : k ≤ 3000) : f2i (FloatKind.f64.nearest (k : Nat)) = some (k : Int):=by
 have:=List.all_eq_true.1 f2iN k (List.mem_range.2 (by omega))
 simpa using this
theorem roomM (a b : Nat) (h : a + b ≤ 1000000) : room s_mark.i1.bytes a b = true:=room_of (by
 have : s_mark.i1.bytes = 200:=rfl
 rw [this]; omega)
theorem roomI (a b : Nat) (h : a + b ≤ 1000000) : room s_int.i1.bytes a b = true:=room_of (by
 have : s_int.i1.bytes = 8:=rfl
 rw [this]; omega)
theorem roomT (a b : Nat) (h : a + b ≤ 1000000) : room s_LStmt.i1.bytes a b = true:=room_of (by
 have : s_LStmt.i1.bytes = 24:=rfl
 rw [this]; omega)
theorem szS_eq (s : Stmt) : szS s = 1 + szE s.E + (szSl s.Body + szSl s.Else):=by cases s; rw [szS]
theorem wt_eq (s : Stmt) : wt s = 10 + 2 * (wtl s.Body + wtl s.Else):=by cases s; rw [wt]
def MkA (x : Stmt) : Prop:=∃ k : Nat,k ≤ 3000 ∧ x.At.re = FloatKind.f64.nearest (k : Int)
def MkL (l : List Stmt) : Prop:=∀ x ∈ flat l,MkA x
theorem MkL_cons {s : Stmt} {r : List Stmt} : MkL (s :: r) ↔ MkA s ∧ MkL s.Body ∧ MkL s.Else ∧ MkL r:=by
 unfold MkL
 simp only [flat,fl1_eq,List.mem_append,List.mem_cons]
 constructor
 ·intro h
  exact ⟨h s (by simp),fun x hx=>h x (by simp [hx]),fun x hx=>h x (by simp [hx]),fun x hx=>h x (by simp [hx])⟩
 ·rintro ⟨h1,h2,h3,h4⟩ x hx
  rcases hx with (rfl | hx | hx) | hx
  ·exact h1
  ·exact h2 x hx
  ·exact h3 x hx
  ·exact h4 x hx
theorem MkL_nil : MkL []:=fun x hx=>by simp [flat] at hx
theorem marked_all : (∀ s : Stmt,(∀ i : Nat,i + szSl s.Body ≤ 3000 → ∃ b' j,Ev (fun n=>hand_marked n s.Body (i : Int)) (b',((j : Nat) : Int)) ∧ MkL b' ∧ szSl b' = szSl s.Body ∧ j ≤ i + szSl s.Body) ∧
   ∀ i : Nat,i + szSl s.Else ≤ 3000 → ∃ b' j,Ev (fun n=>hand_marked n s.Else (i : Int)) (b',((j : Nat) : Int)) ∧ MkL b' ∧ szSl b' = szSl s.Else ∧ j ≤ i + szSl s.Else) ∧
  ∀ l : List Stmt,∀ (a1 : Int) (pre acc : List Stmt) (i : Nat),i + szSl l ≤ 3000 → (pre ++ l).length ≤ 1000000 → acc.length + l.length ≤ 1000000 →
   ∃ l' j,Ev (fun n=>hand_marked_L0 n (pre ++ l) a1 (i : Int) acc pre.length) (acc ++ l',((j : Nat) : Int)) ∧ MkL l' ∧ szSl l' = szSl l ∧ j ≤ i + szSl l:=by
 refine stmt_ind ?_ ?_ ?_
 ·intro k w v m e b l a hb hl
  constructor
  ·intro i hi
   have:=len_Sl b
   simp only at hi ⊢
   obtain ⟨l',j,h1,h2⟩:=hb i [] [] i hi (by simp; omega) (by simp; omega)
   exact ⟨l',j,Ev.step (Ev.of_eq (fun n=>by simp only [hand_marked]; rfl) h1),h2⟩
  ·intro i hi
   have:=len_Sl l
   simp only at hi ⊢
   obtain ⟨l',j,h1,h2⟩:=hl i [] [] i hi (by simp; omega) (by simp; omega)
   exact ⟨l',j,Ev.step (Ev.of_eq (fun n=>by simp only [hand_marked]; rfl) h1),h2⟩
 ·intro a1 pre acc i h1 h2 h3
  exact ⟨[],i,Ev.step (Ev.of_eq (g:=fun n=>some (acc,(i : Int))) (fun n=>by simp only [hand_marked_L0,List.append_nil,ix_ge,cond_false]) (by simpa using Ev.ret _)),MkL_nil,rfl,by omega⟩
 ·intro x r ihx ihr a1 pre acc i h1 h2 h3
  rw [szSl] at h1
  have hx:=szS_eq x
  have hp : pre.length + 1 ≤ 1000000:=by simp at h2; omega
  have ha : acc.length + 1 + r.length ≤ 1000000:=by simp at h3; omega
  obtain ⟨b',j1,e1,m1,z1,c1⟩:=ihx.1 (i + 1) (by omega)
  obtain ⟨l',j2,e2,m2,z2,c2⟩:=ihx.2 j1 (by omega)
  have hw : wr ((i : Int) + 1) = ((i + 1 : Nat) : Int):=by rw [wr_of (by omega)]; rfl
  obtain ⟨r',j,e3,m3,z3,c3⟩:=ihr a1 (pre ++ [x]) (acc ++ [Stmt.mk x.Kind x.Name x.Other x.N x.E b' l' (⟨FloatKind.f64.nearest (i : Int),0⟩ : Cx)]) j2 (by omega) (by rw [← ix_cons]; exact h2) (by simp; omega)
  refine ⟨Stmt.mk x.Kind x.Name x.Other x.N x.E b' l' (⟨FloatKind.f64.nearest (i : Int),0⟩ : Cx) :: r',j,?_,MkL_cons.2 ⟨⟨i,by omega,rfl⟩,m1,m2,m3⟩,by simp only [szSl,szS]; omega,by rw [szSl]; omega⟩
  refine Ev.step (Ev.of_eq (g:=fun n=>(hand_marked n x.Body ((i + 1 : Nat) : Int)).bind fun r6=>(hand_marked n x.Else r6.2).bind fun r8 =>
   bif room s_Stmt.i1.bytes acc.length [(Stmt.mk x.Kind x.Name x.Other x.N x.E r6.1 r8.1 (⟨FloatKind.f64.nearest (i : Int),0⟩ : Cx))].length then
    hand_marked_L0 n ((pre ++ [x]) ++ r) a1 r8.2 (acc ++ [(Stmt.mk x.Kind x.Name x.Other x.N x.E r6.1 r8.1 (⟨FloatKind.f64.nearest (i : Int),0⟩ : Cx))]) ((pre ++ [x]).length) else none) (fun n=>?_) (Ev.bind e1 (Ev.bind e2 (Ev.yes (room32 _ (by omega) _) (by simpa using e3)))))
  simp only [hand_marked_L0,ix_lt,cond_true,ix_get,Option.bind_some,hw]
  rw [ix_wr pre x (by omega),← ix_cons]
theorem marked_ev (l : List Stmt) (i : Nat) (h : i + szSl l ≤ 3000) : ∃ l' j,Ev (fun n=>hand_marked n l (i : Int)) (l',((j : Nat) : Int)) ∧ MkL l' ∧ szSl l' = szSl l ∧ j ≤ i + szSl l:=by
 have:=len_Sl l
 obtain ⟨l',j,h1,h2⟩:=marked_all.2 l i [] [] i h (by simp; omega) (by simp; omega)
 exact ⟨l',j,Ev.step (Ev.of_eq (fun n=>by simp only [hand_marked]; rfl) h1),h2⟩
theorem mark_L0 (D : List Decl) (ts : List (List Stmt)) : ∀ (l pre acc : List (List Stmt)) (i : Nat),ts = pre ++ l → i + szT l ≤ 3000 → ts.length ≤ 1000 → acc.length + l.length ≤ 1000 →
  ∃ l',Ev (fun n=>hand_mark_L0 n ⟨D,ts⟩ (i : Int) acc pre.length) ⟨D,acc ++ l'⟩ ∧ (∀ t ∈ l',MkL t) ∧ szT l' = szT l ∧ l'.length = l.length
 | [],pre,acc,i,e,h,h2,h3=>by
  rw [List.append_nil] at e; subst e
  exact ⟨[],Ev.step (Ev.of_eq (g:=fun n=>some ⟨D,acc⟩) (fun n=>by simp only [hand_mark_L0,ix_ge,cond_false]) (by simpa using Ev.ret _)),by simp,rfl,rfl⟩
 | t :: r,pre,acc,i,e,h,h2,h3=>by
  rw [szT] at h
  have hp : pre.length + 1 ≤ 1000:=by rw [e] at h2; simp at h2; omega
  have ha : acc.length + 1 + r.length ≤ 1000:=by simp at h3; omega
  obtain ⟨t',j,e1,m1,z1,c1⟩:=marked_ev t i (by omega)
  obtain ⟨r',e2,m2,z2,c2⟩:=mark_L0 D ts r (pre ++ [t]) (acc ++ [t']) j (by rw [e]; exact ix_cons _ _ _) (by omega) h2 (by simp; omega)
  refine ⟨t' :: r',?_,?_,by simp only [szT]; omega,by simp [c2]⟩
  ·subst e
   refine Ev.step (Ev.of_eq (g:=fun n=>(hand_marked n t (i : Int)).bind fun r5=>bif room s_LStmt.i1.bytes acc.length [r5.1].length then hand_mark_L0 n ⟨D,pre ++ t :: r⟩ r5.2 (acc ++ [r5.1]) ((pre ++ [t]).length) else none) (fun n=>?_) (Ev.bind e1 (Ev.yes (roomT _ _ (by simp; omega)) (by simpa using e2))))
   simp only [hand_mark_L0,ix_lt,cond_true,ix_get,Option.bind_some]
   rw [ix_wr pre t (by omega)]
  ·intro x hx
   rcases List.mem_cons.1 hx with rfl | hx
   ·exact m1
   ·exact m2 x hx
theorem mark_ev (D : List Decl) (ts : List (List Stmt)) (h : szT ts ≤ 3000) (h2 : ts.length ≤ 1000) : ∃ ts',Ev (fun n=>hand_mark n ⟨D,ts⟩) ⟨D,ts'⟩ ∧ (∀ t ∈ ts',MkL t) ∧ szT ts' = szT ts ∧ ts'.length = ts.length:=by
 obtain ⟨l',h1,h3⟩:=mark_L0 D ts ts [] [] 0 rfl (by omega) h2 (by simp; omega)
 exact ⟨l',Ev.of_eq (fun n=>by simp only [hand_mark]; rfl) (by simpa using h1),h3⟩
def PM (m : Mark) : Prop:=m.Block ≠ [] ∧ m.Block.length ≤ 20000 ∧ MkA m.S
theorem marks_all : (∀ s : Stmt,(∀ (a1 : List Int) (a2 a3 : Int),a1.length + szSl s.Body ≤ 10000 → MkL s.Body → ∃ ms j,Ev (fun n=>ref8_marks n s.Body a1 a2 a3) (ms,j) ∧ ms.length ≤ szSl s.Body ∧ ∀ m ∈ ms,PM m) ∧
   ∀ (a1 : List Int) (a2 a3 : Int),a1.length + szSl s.Else ≤ 10000 → MkL s.Else → ∃ ms j,Ev (fun n=>ref8_marks n s.Else a1 a2 a3) (ms,j) ∧ ms.length ≤ szSl s.Else ∧ ∀ m ∈ ms,PM m) ∧
  ∀ l : List Stmt,∀ (a1 : List Int) (a2 a3 i : Int) (here : List Int) (pre : List Stmt) (acc : List Mark),here ≠ [] → here.length + szSl l ≤ 10001 → (pre ++ l).length ≤ 100000 → acc.length + szSl l ≤ 100000 → MkL l →
   ∃ ms j,Ev (fun n=>ref8_marks_L0 n (pre ++ l) a1 a2 a3 i here acc pre.length) (acc ++ ms,j) ∧ ms.length ≤ szSl l ∧ ∀ m ∈ ms,PM m:=by
 have whole : ∀ (b : List Stmt),(∀ (a1 : List Int) (a2 a3 i : Int) (here : List Int) (pre : List Stmt) (acc : List Mark),here ≠ [] → here.length + szSl b ≤ 10001 → (pre ++ b).length ≤ 100000 → acc.length + szSl b ≤ 100000 → MkL b →
   ∃ ms j,Ev (fun n=>ref8_marks_L0 n (pre ++ b) a1 a2 a3 i here acc pre.length) (acc ++ ms,j) ∧ ms.length ≤ szSl b ∧ ∀ m ∈ ms,PM m) →
   ∀ (a1 : List Int) (a2 a3 : Int),a1.length + szSl b ≤ 10000 → MkL b → ∃ ms j,Ev (fun n=>ref8_marks n b a1 a2 a3) (ms,j) ∧ ms.length ≤ szSl b ∧ ∀ m ∈ ms,PM m:=by
  intro b hb a1 a2 a3 h hM
  have:=len_Sl b
  obtain ⟨ms,j,h1,h2⟩:=hb a1 a2 a3 (wr (a3 + 1)) (([] ++ a1) ++ [wr (a3 + 1)]) [] [] (by simp) (by simp; omega) (by simp; omega) (by simp; omega) hM
  refine ⟨ms,j,Ev.step (Ev.of_eq (fun n=>?_) h1),h2⟩
  simp only [ref8_marks,roomI ([] : List Int).length a1.length (by simp; omega),List.nil_append,roomI a1.length [wr (a3 + 1)].length (by simp; omega),cond_true]
  rfl
 refine stmt_ind ?_ ?_ ?_
 ·intro k w v m e b l a hb hl
  exact ⟨whole b hb,whole l hl⟩
 ·intro a1 a2 a3 i here pre acc h0 h1 h2 h3 hM
  exact ⟨[],i,Ev.step (Ev.of_eq (g:=fun n=>some (acc,i)) (fun n=>by simp only [ref8_marks_L0,List.append_nil,ix_ge,cond_false]) (by simpa using Ev.ret _)),by simp,by simp⟩
 ·intro x r ihx ihr a1 a2 a3 i here pre acc h0 h1 h2 h3 hM
  rw [szSl] at h1 h3
  have hx:=szS_eq x
  have hp : pre.length + 1 ≤ 100000:=by simp at h2; omega
  obtain ⟨mx,mb,me,mr⟩:=MkL_cons.1 hM
  obtain ⟨b',j1,e1,l1,p1⟩:=ihx.1 here a2 i (by omega) mb
  obtain ⟨l',j2,e2,l2,p2⟩:=ihx.2 here a2 j1 (by omega) me
  obtain ⟨r',j,e3,l3,p3⟩:=ihr a1 a2 a3 j2 here (pre ++ [x]) (((acc ++ [Mark.mk x here a2]) ++ b') ++ l') h0 (by omega) (by rw [← ix_cons]; exact h2) (by simp; omega) mr
  refine ⟨Mark.mk x here a2 :: (b' ++ (l' ++ r')),j,?_,by simp [szSl]; omega,?_⟩
  ·refine Ev.step (Ev.of_eq (g:=fun n=>(ref8_marks n x.Body here a2 i).bind fun r10=>bif room s_mark.i1.bytes (acc ++ [(Mark.mk x here a2)]).length r10.1.length then
     (ref8_marks n x.Else here a2 r10.2).bind fun r13=>bif room s_mark.i1.bytes ((acc ++ [(Mark.mk x here a2)]) ++ r10.1).length r13.1.length then
      ref8_marks_L0 n ((pre ++ [x]) ++ r) a1 a2 a3 r13.2 here (((acc ++ [(Mark.mk x here a2)]) ++ r10.1) ++ r13.1) ((pre ++ [x]).length) else none else none) (fun n=>?_) (Ev.bind e1 (Ev.yes (roomM _ _ (by simp; omega)) (Ev.bind e2 (Ev.yes (roomM _ _ (by simp; omega)) (by simpa using e3))))))
   simp only [ref8_marks_L0,ix_lt,cond_true,ix_get,Option.bind_some,roomM acc.length [Mark.mk x here a2].length (by simp; omega)]
   rw [ix_wr pre x (by omega),← ix_cons]
  ·intro m hm
   rcases List.mem_cons.1 hm with rfl | hm
   ·exact ⟨h0,by show here.length ≤ 20000; omega,mx⟩
   rcases List.mem_append.1 hm with hm | hm
   ·exact p1 m hm
   rcases List.mem_append.1 hm with hm | hm
   ·exact p2 m hm
   ·exact p3 m hm
theorem marks_ev (l : List Stmt) (a2 a3 : Int) (h : szSl l ≤ 10000) (hM : MkL l) : ∃ ms j,Ev (fun n=>ref8_marks n l [] a2 a3) (ms,j) ∧ ms.length ≤ szSl l ∧ ∀ m ∈ ms,PM m:=by
 have:=(marks_all.1 ⟨0,b0,b0,0,eN,l,[],c0⟩).1 [] a2 a3 (by simpa using h) hM
 exact this
theorem all_L0 (D : List Decl) (ts : List (List Stmt)) : ∀ (l pre : List (List Stmt)) (acc : List Mark) (i : Int),ts = pre ++ l → acc.length + szT l ≤ 10000 → ts.length ≤ 1000 → (∀ t ∈ l,MkL t) → (∀ m ∈ acc,PM m) →
  ∃ ms,Ev (fun n=>ref8_all_L0 n ⟨D,ts⟩ acc i pre.length) ms ∧ ms.length ≤ 10000 ∧ ∀ m ∈ ms,PM m
 | [],pre,acc,i,e,h,h2,hM,hA=>by
  rw [List.append_nil] at e; subst e
  exact ⟨acc,Ev.step (Ev.of_eq (g:=fun n=>some acc) (fun n=>by simp only [ref8_all_L0,ix_ge,cond_false]) (Ev.ret _)),by omega,hA⟩
 | t :: r,pre,acc,i,e,h,h2,hM,hA=>by
  rw [szT] at h
  have hp : pre.length + 1 ≤ 1000:=by rw [e] at h2; simp at h2; omega
  obtain ⟨mt,j,e1,l1,p1⟩:=marks_ev t (pre.length : Int) i (by omega) (hM t (by simp))
  obtain ⟨ms,e2,l2,p2⟩:=all_L0 D ts r (pre ++ [t]) (acc ++ mt) j (by rw [e]; exact ix_cons _ _ _) (by simp; omega) h2 (fun x hx=>hM x (by simp [hx])) (fun m hm=>by
   rcases List.mem_append.1 hm with hm | hm
   ·exact hA m hm
   ·exact p1 m hm)
  refine ⟨ms,?_,l2,p2⟩
  subst e
  refine Ev.step (Ev.of_eq (g:=fun n=>(ref8_marks n t [] (pre.length : Int) i).bind fun r5=>bif room s_mark.i1.bytes acc.length r5.1.length then ref8_all_L0 n ⟨D,pre ++ t :: r⟩ (acc ++ r5.1) r5.2 ((pre ++ [t]).length) else none) (fun n=>?_) (Ev.bind e1 (Ev.yes (roomM _ _ (by simp; omega)) e2)))
  simp only [ref8_all_L0,ix_lt,cond_true,ix_get,Option.bind_some]
  rw [ix_wr pre t (by omega)]
theorem all_ev (D : List Decl) (ts : List (List Stmt)) (h : szT ts ≤ 10000) (h2 : ts.length ≤ 1000) (hM : ∀ t ∈ ts,MkL t) : ∃ ms,Ev (fun n=>ref8_all n ⟨D,ts⟩) ms ∧ ms.length ≤ 10000 ∧ ∀ m ∈ ms,PM m:=by
 obtain ⟨ms,h1,h3⟩:=all_L0 D ts ts [] [] 0 rfl (by simpa using h) h2 hM (by simp)
 exact ⟨ms,Ev.of_eq (fun n=>by simp only [ref8_all]; rfl) h1,h3⟩
theorem inb_L0 (a0 : Int) (S : Stmt) (A : Int) : ∀ (l pre : List Int),(pre ++ l).length ≤ 1000000 → ∃ b,Ev (fun n=>ref8_within_L0 n a0 ⟨S,pre ++ l,A⟩ pre.length) b
 | [],pre,h=>⟨false,Ev.step (Ev.of_eq (g:=fun n=>some false) (fun n=>by simp only [ref8_within_L0,List.append_nil,ix_ge,cond_false]) (Ev.ret _))⟩
 | x :: r,pre,h=>by
  have hp : pre.length + 1 ≤ 1000000:=by simp at h; omega
  cases c : (x == a0)
  ·obtain ⟨b,hb⟩:=inb_L0 a0 S A r (pre ++ [x]) (by rw [← ix_cons]; exact h)
   refine ⟨b,Ev.step (Ev.of_eq (fun n=>?_) hb)⟩
   simp only [ref8_within_L0,ix_lt,ix_get,cond_true,Option.bind_some,c,cond_false]
   rw [ix_wr pre x (by omega),← ix_cons]
  ·exact ⟨true,Ev.step (Ev.of_eq (g:=fun n=>some true) (fun n=>by simp only [ref8_within_L0,ix_lt,ix_get,cond_true,Option.bind_some,c]) (Ev.ret _))⟩
theorem inb_ev (a0 : Int) (m : Mark) (h : PM m) : ∃ b,Ev (fun n=>ref8_within n a0 m) b:=by
 obtain ⟨S,B,A⟩:=m
 obtain ⟨b,hb⟩:=inb_L0 a0 S A B [] (by have:=h.2.1; simp only at this; simp; omega)
 exact ⟨b,Ev.of_eq (fun n=>by simp only [ref8_within]; rfl) hb⟩
theorem target_L0 (i : Nat) (mi : Mark) (hmi : PM mi) (b1 : Bool) : ∀ (l pre : List Mark),idx (pre ++ l) (i : Int) = some mi → (pre ++ l).length ≤ 100000 → (∀ m ∈ l,PM m) → ∃ r,Ev (fun n=>ref8_target_L0 n (pre ++ l) (i : Int) b1 pre.length) r
 | [],pre,hi,h,hP=>⟨-1,Ev.step (Ev.of_eq (g:=fun n=>some (-1)) (fun n=>by simp only [ref8_target_L0,List.append_nil,ix_ge,cond_false]) (Ev.ret _))⟩
 | x :: r,pre,hi,h,hP=>by
  have hp : pre.length + 1 ≤ 100000:=by simp at h; omega
  obtain ⟨q,hq⟩:=target_L0 i mi hmi b1 r (pre ++ [x]) (by rw [← ix_cons]; exact hi) (by rw [← ix_cons]; exact h) (fun m hm=>hP m (by simp [hm]))
  obtain ⟨B1,B2,B3⟩:=hP x (by simp)
  have hne : 0 < x.Block.length:=List.length_pos_iff.2 B1
  have hw : wr (ln x.Block - 1) = ((x.Block.length - 1 : Nat) : Int):=by
   show wr ((x.Block.length : Int) - 1) = _
   rw [wr_of (by omega)]; omega
  have hb : idx x.Block ((x.Block.length - 1 : Nat) : Int) = some (x.Block[x.Block.length - 1]'(by omega)):=idx_of (by omega) (by rw [Int.toNat_natCast]; exact List.getElem?_eq_getElem (by omega))
  obtain ⟨b,hW⟩:=inb_ev (x.Block[x.Block.length - 1]'(by omega)) mi hmi
  have base : ∀ n,ref8_target_L0 (n + 1) (pre ++ x :: r) (i : Int) b1 pre.length = jn (fun (b6 : Bool)=>bif b6 then some (pre.length : Int) else ref8_target_L0 n ((pre ++ [x]) ++ r) (i : Int) b1 ((pre ++ [x]).length)) fun J7 =>
    bif (x.S.Kind == 10) then bif bytesEq x.S.Name mi.S.Name then bif (x.At == mi.At) then (ref8_within n (x.Block[x.Block.length - 1]'(by omega)) mi).bind fun r12=>J7 r12 else J7 false else J7 false else J7 false:=by
   intro n
   simp only [ref8_target_L0,ix_lt,ix_get,cond_true,Option.bind_some,hi,hw,hb,ix_wr pre x (show pre.length + 1 ≤ 9223372036854775807 by omega)]
   rw [← ix_cons]
  cases c1 : (x.S.Kind == 10)
  ·exact ⟨q,Ev.step (Ev.of_eq (fun n=>by rw [base]; simp only [jn,c1,cond_false]) hq)⟩
  cases c2 : bytesEq x.S.Name mi.S.Name
  ·exact ⟨q,Ev.step (Ev.of_eq (fun n=>by rw [base]; simp only [jn,c1,c2,cond_false,cond_true]) hq)⟩
  cases c3 : (x.At == mi.At)
  ·exact ⟨q,Ev.step (Ev.of_eq (fun n=>by rw [base]; simp only [jn,c1,c2,c3,cond_false,cond_true]) hq)⟩
  cases b
  ·exact ⟨q,Ev.step (Ev.of_eq (fun n=>by rw [base]; simp only [jn,c1,c2,c3,cond_true]) (Ev.bind hW (g:=fun n r12=>bif r12 then some (pre.length : Int) else ref8_target_L0 n ((pre ++ [x]) ++ r) (i : Int) b1 ((pre ++ [x]).length)) (Ev.no rfl hq)))⟩
  ·exact ⟨_,Ev.step (Ev.of_eq (fun n=>by rw [base]; simp only [jn,c1,c2,c3,cond_true]) (Ev.bind hW (g:=fun n r12=>bif r12 then some (pre.length : Int) else ref8_target_L0 n ((pre ++ [x]) ++ r) (i : Int) b1 ((pre ++ [x]).length)) (Ev.yes rfl (Ev.ret _))))⟩
theorem target_ev (ms : List Mark) (i : Nat) (hi : i < ms.length) (hl : ms.length ≤ 10000) (hP : ∀ m ∈ ms,PM m) : ∃ r,Ev (fun n=>ref8_target n ms (i : Int)) r:=by
 have d1 : decide ((i : Int) < 0) = false:=decide_eq_false (by omega)
 have d2 : decide ((i : Int) ≥ ln ms) = false:=decide_eq_false (by show ¬ (i : Int) ≥ (ms.length : Int); omega)
 have i1 : idx ms (i : Int) = some ms[i]:=idx_of (by omega) (by rw [Int.toNat_natCast]; exact List.getElem?_eq_getElem hi)
 cases c : (ms[i].S.Kind != 9)
 ·have hmi:=hP _ (List.getElem_mem hi)
  have hw : wr ((i : Int) + 1) = ((ms.take (i + 1)).length : Int):=by rw [wr_of (by omega),List.length_take]; omega
  obtain ⟨r,hr⟩:=target_L0 i ms[i] hmi false (ms.drop (i + 1)) (ms.take (i + 1)) (by rw [List.take_append_drop]; exact i1) (by rw [List.take_append_drop]; omega) (fun m hm=>hP m (List.mem_of_mem_drop hm))
  refine ⟨r,Ev.of_eq (fun n=>?_) hr⟩
  simp only [ref8_target,jn,d1,d2,cond_false,i1,Option.bind_some,c,hw,List.take_append_drop]
 ·exact ⟨-1,Ev.of_eq (g:=fun n=>some (-1)) (fun n=>by simp only [ref8_target,jn,d1,d2,cond_false,i1,Option.bind_some,c,cond_true]) (Ev.ret _)⟩
def JR (r : Cx × Int) : Prop:=r.2 = 0 ∨ ∃ k : Nat,k ≤ 3000 ∧ r.1.re = FloatKind.f64.nearest (k : Int)
theorem Jumps_L1 (p : Prog) (r1 ms : List Mark) (i3 : Nat) (x4 : Mark) (b5 : Bool) (hx : PM x4) (hi : i3 ≤ ms.length) (hl : ms.length ≤ 10000)
  (next : ∃ r,Ev (fun n=>ref8_Jumps_L0 n p r1 ms (wr ((i3 : Int) + 1))) r ∧ JR r) :
  ∀ (m j : Nat),i3 - j ≤ m → j ≤ i3 → ∃ r,Ev (fun n=>ref8_Jumps_L1 n p r1 ms (i3 : Int) x4 b5 (j : Int)) r ∧ JR r
 | 0,j,h1,h2=>by
  obtain ⟨r,hr,hj⟩:=next
  have d1 : decide ((j : Int) < (i3 : Int)) = false:=decide_eq_false (by omega)
  exact ⟨r,Ev.step (Ev.of_eq (fun n=>by simp only [ref8_Jumps_L1,jn,d1,cond_false]) hr),hj⟩
 | m + 1,j,h1,h2=>by
  by_cases hj : j < i3
  ·have d1 : decide ((j : Int) < (i3 : Int)) = true:=decide_eq_true (by omega)
   have i1 : idx ms (j : Int) = some (ms[j]'(by omega)):=idx_of (by omega) (by rw [Int.toNat_natCast]; exact List.getElem?_eq_getElem (by omega))
   have e3 : wr ((j : Int) + 1) = ((j + 1 : Nat) : Int):=by rw [wr_of (by omega)]; rfl
   obtain ⟨q,hq,jq⟩:=Jumps_L1 p r1 ms i3 x4 b5 hx hi hl next m (j + 1) (by omega) (by omega)
   have bad : JR (x4.S.At,4):=.inr hx.2.2
   cases c0 : (x4.S.Kind == 10)
   ·obtain ⟨r,hr,hj⟩:=next
    exact ⟨r,Ev.step (Ev.of_eq (fun n=>by simp only [ref8_Jumps_L1,jn,d1,cond_true,c0,cond_false]) hr),hj⟩
   cases c1 : ((ms[j]'(by omega)).S.Kind == 10)
   ·exact ⟨q,Ev.step (Ev.of_eq (fun n=>by simp only [ref8_Jumps_L1,jn,d1,cond_true,c0,i1,Option.bind_some,c1,cond_false,e3]) hq),jq⟩
   cases c2 : bytesEq (ms[j]'(by omega)).S.Name x4.S.Name
   ·exact ⟨q,Ev.step (Ev.of_eq (fun n=>by simp only [ref8_Jumps_L1,jn,d1,cond_true,c0,i1,Option.bind_some,c1,c2,cond_false,e3]) hq),jq⟩
   cases c3 : ((ms[j]'(by omega)).At == x4.At)
   ·exact ⟨q,Ev.step (Ev.of_eq (fun n=>by simp only [ref8_Jumps_L1,jn,d1,cond_true,c0,i1,Option.bind_some,c1,c2,c3,cond_false,e3]) hq),jq⟩
   ·exact ⟨(x4.S.At,4),Ev.step (Ev.of_eq (g:=fun n=>some (x4.S.At,4)) (fun n=>by simp only [ref8_Jumps_L1,jn,d1,cond_true,c0,i1,Option.bind_some,c1,c2,c3]) (Ev.ret _)),bad⟩
  ·exact Jumps_L1 p r1 ms i3 x4 b5 hx hi hl next m j (by omega) (by omega)
theorem Jumps_L0 (p : Prog) (r1 ms : List Mark) (hl : ms.length ≤ 10000) (hP : ∀ m ∈ ms,PM m) : ∀ (m i : Nat),ms.length - i ≤ m → i ≤ ms.length → ∃ r,Ev (fun n=>ref8_Jumps_L0 n p r1 ms (i : Int)) r ∧ JR r
 | 0,i,h1,h2=>by
  have d1 : decide ((i : Int) < ln ms) = false:=decide_eq_false (by show ¬ (i : Int) < (ms.length : Int); omega)
  exact ⟨(c0,0),Ev.step (Ev.of_eq (g:=fun n=>some (c0,0)) (fun n=>by simp only [ref8_Jumps_L0,d1,cond_false]) (Ev.ret _)),.inl rfl⟩
 | m + 1,i,h1,h2=>by
  by_cases hi : i < ms.length
  ·have d1 : decide ((i : Int) < ln ms) = true:=decide_eq_true (by show (i : Int) < (ms.length : Int); omega)
   have i1 : idx ms (i : Int) = some ms[i]:=idx_of (by omega) (by rw [Int.toNat_natCast]; exact List.getElem?_eq_getElem hi)
   have e3 : wr ((i : Int) + 1) = ((i + 1 : Nat) : Int):=by rw [wr_of (by omega)]; rfl
   have hx:=hP _ (List.getElem_mem hi)
   have next:=Jumps_L0 p r1 ms hl hP m (i + 1) (by omega) (by omega)
   rw [← e3] at next
   have inner : ∀ b5,∃ r,Ev (fun n=>ref8_Jumps_L1 n p r1 ms (i : Int) ms[i] b5 0) r ∧ JR r:=fun b5=>Jumps_L1 p r1 ms i ms[i] b5 hx h2 hl next i 0 (by omega) (by omega)
   cases c1 : (ms[i].S.Kind == 9)
   ·obtain ⟨r,hr,hj⟩:=inner false
    exact ⟨r,Ev.step (Ev.of_eq (fun n=>by simp only [ref8_Jumps_L0,d1,cond_true,i1,Option.bind_some,jn,c1,cond_false]) hr),hj⟩
   ·obtain ⟨t,ht⟩:=target_ev ms i hi hl hP
    cases c2 : decide (t < 0)
    ·obtain ⟨r,hr,hj⟩:=inner false
     refine ⟨r,Ev.step (Ev.of_eq (g:=fun n=>(ref8_target n ms (i : Int)).bind fun r7=>bif decide (r7 < 0) then some (ms[i].S.At,4) else ref8_Jumps_L1 n p r1 ms (i : Int) ms[i] (decide (r7 < 0)) 0) (fun n=>?_) (Ev.bind ht (Ev.no c2 (by rw [c2]; exact hr)))),hj⟩
     simp only [ref8_Jumps_L0,d1,cond_true,i1,Option.bind_some,jn,c1]
    ·refine ⟨(ms[i].S.At,4),Ev.step (Ev.of_eq (g:=fun n=>(ref8_target n ms (i : Int)).bind fun r7=>bif decide (r7 < 0) then some (ms[i].S.At,4) else ref8_Jumps_L1 n p r1 ms (i : Int) ms[i] (decide (r7 < 0)) 0) (fun n=>?_) (Ev.bind ht (Ev.yes c2 (Ev.ret _)))),.inr hx.2.2⟩
     simp only [ref8_Jumps_L0,d1,cond_true,i1,Option.bind_some,jn,c1]
  ·exact Jumps_L0 p r1 ms hl hP m i (by omega) h2
theorem Jumps_ev (D : List Decl) (ts : List (List Stmt)) (h : szT ts ≤ 10000) (h2 : ts.length ≤ 1000) (hM : ∀ t ∈ ts,MkL t) : ∃ r,Ev (fun n=>ref8_Jumps n ⟨D,ts⟩) r ∧ JR r:=by
 obtain ⟨ms,e1,l1,p1⟩:=all_ev D ts h h2 hM
 obtain ⟨r,e2,j2⟩:=Jumps_L0 ⟨D,ts⟩ ms ms l1 p1 ms.length 0 (by omega) (by omega)
 exact ⟨r,Ev.of_eq (g:=fun n=>(ref8_all n ⟨D,ts⟩).bind fun r1=>ref8_Jumps_L0 n ⟨D,ts⟩ r1 r1 0) (fun n=>by simp only [ref8_Jumps]) (Ev.bind e1 e2),j2⟩
theorem okH_re {k m : Int} {w v : ByteArray} {e : Expr} {b l b' l' : List Stmt} {a : Cx} (h : okH ⟨k,w,v,m,e,b,l,a⟩) (hb : b = [] → b' = []) (hl : l = [] → l' = []) : okH ⟨k,w,v,m,e,b',l',a⟩:=by
 cases h
 case assign=>obtain rfl:=hb rfl; obtain rfl:=hl rfl; constructor <;> assumption
 case lock=>obtain rfl:=hb rfl; obtain rfl:=hl rfl; constructor
 case unlock=>obtain rfl:=hb rfl; obtain rfl:=hl rfl; constructor
 case send=>obtain rfl:=hb rfl; obtain rfl:=hl rfl; constructor <;> assumption
 case recv=>obtain rfl:=hb rfl; obtain rfl:=hl rfl; constructor <;> assumption
 case print=>obtain rfl:=hb rfl; obtain rfl:=hl rfl; constructor <;> assumption
 case cond=>constructor <;> assumption
 case rep=>obtain rfl:=hl rfl; constructor <;> assumption
 case goto=>obtain rfl:=hb rfl; obtain rfl:=hl rfl; constructor <;> assumption
 case label=>obtain rfl:=hb rfl; obtain rfl:=hl rfl; constructor <;> assumption
theorem okS_re {d : Nat} (s : Stmt) {b' l' : List Stmt} (h : okS d s) (ob : okSl (d - 1) b') (ol : okSl (d - 1) l') (hb : s.Body = [] → b' = []) (hl : s.Else = [] → l' = []) : okS d ⟨s.Kind,s.Name,s.Other,s.N,s.E,b',l',s.At⟩:=by
 cases s with
 | mk k w v m e b l a =>
  rw [okS] at h ⊢
  obtain ⟨h1,h2,h3,h4,h5⟩:=h
  exact ⟨okH_re h1 hb hl,fun h=>⟨hb (h2 h).1,hl (h2 h).2⟩,h3,ob,ol⟩
theorem cut_all (site : Int) : (∀ s : Stmt,∀ d,okS d s → wt s ≤ 100000 → (∀ i : Int,∃ b' j,Ev (fun n=>hand_cut n s.Body site i) (b',j) ∧ okSl (d - 1) b' ∧ wtl b' ≤ wtl s.Body ∧ (s.Body = [] → b' = [])) ∧
   ∀ i : Int,∃ b' j,Ev (fun n=>hand_cut n s.Else site i) (b',j) ∧ okSl (d - 1) b' ∧ wtl b' ≤ wtl s.Else ∧ (s.Else = [] → b' = [])) ∧
  ∀ l : List Stmt,∀ d,okSl d l → wtl l ≤ 100000 → ∀ (a2 : Int) (pre acc : List Stmt) (i : Int),(pre ++ l).length ≤ 1000000 → acc.length + l.length ≤ 1000000 →
   ∃ l' j,Ev (fun n=>hand_cut_L0 n (pre ++ l) site a2 i acc pre.length) (acc ++ l',j) ∧ okSl d l' ∧ wtl l' ≤ wtl l ∧ (l = [] → l' = []):=by
 refine stmt_ind ?_ ?_ ?_
 ·intro k w v m e b l a hb hl d h hw
  rw [okS] at h
  rw [wt] at hw
  obtain ⟨_,_,_,h4,h5⟩:=h
  have lb:=len_Sl b
  have ll:=len_Sl l
  have wb:=szS_wt.2 b _ h4
  have wl:=szS_wt.2 l _ h5
  constructor
  ·intro i
   obtain ⟨l',j,h1,h2⟩:=hb (d - 1) h4 (by omega) i [] [] i (by simp; omega) (by simp; omega)
   exact ⟨l',j,Ev.step (Ev.of_eq (fun n=>by simp only [hand_cut]; rfl) h1),h2⟩
  ·intro i
   obtain ⟨l',j,h1,h2⟩:=hl (d - 1) h5 (by omega) i [] [] i (by simp; omega) (by simp; omega)
   exact ⟨l',j,Ev.step (Ev.of_eq (fun n=>by simp only [hand_cut]; rfl) h1),h2⟩
 ·intro d _ _ a2 pre acc i h1 h2
  exact ⟨[],i,Ev.step (Ev.of_eq (g:=fun n=>some (acc,i)) (fun n=>by simp only [hand_cut_L0,List.append_nil,ix_ge,cond_false]) (by simpa using Ev.ret _)),by rw [okSl]; trivial,by omega,fun _=>rfl⟩
 ·intro x r ihx ihr d ho hw a2 pre acc i h1 h2
  rw [okSl] at ho
  rw [wtl] at hw
  have hp : pre.length + 1 ≤ 1000000:=by simp at h1; omega
  have ha : acc.length + 1 + r.length ≤ 1000000:=by simp at h2; omega
  obtain ⟨b',j1,e1,o1,w1,n1⟩:=(ihx d ho.1 (by omega)).1 (wr (i + 1))
  obtain ⟨l',j2,e2,o2,w2,n2⟩:=(ihx d ho.1 (by omega)).2 j1
  have ox:=okS_re x ho.1 o1 o2 n1 n2
  have wx:=wt_eq x
  cases c : (i != site)
  ·obtain ⟨r',j,e3,o3,w3,n3⟩:=ihr d ho.2 (by omega) a2 (pre ++ [x]) acc j2 (by rw [← ix_cons]; exact h1) (by omega)
   refine ⟨r',j,?_,o3,by rw [wtl]; omega,fun h=>by simp at h⟩
   refine Ev.step (Ev.of_eq (g:=fun n=>(hand_cut n x.Body site (wr (i + 1))).bind fun r9=>(hand_cut n x.Else site r9.2).bind fun r11=>hand_cut_L0 n ((pre ++ [x]) ++ r) site a2 r11.2 acc ((pre ++ [x]).length)) (fun n=>?_) (Ev.bind e1 (Ev.bind e2 e3)))
   simp only [hand_cut_L0,jn,ix_lt,cond_true,ix_get,Option.bind_some,c,cond_false]
   rw [ix_wr pre x (by omega),← ix_cons]
  ·obtain ⟨r',j,e3,o3,w3,n3⟩:=ihr d ho.2 (by omega) a2 (pre ++ [x]) (acc ++ [Stmt.mk x.Kind x.Name x.Other x.N x.E b' l' x.At]) j2 (by rw [← ix_cons]; exact h1) (by simp; omega)
   refine ⟨Stmt.mk x.Kind x.Name x.Other x.N x.E b' l' x.At :: r',j,?_,by rw [okSl]; exact ⟨ox,o3⟩,by rw [wtl,wtl,wt]; omega,fun h=>by simp at h⟩
   refine Ev.step (Ev.of_eq (g:=fun n=>(hand_cut n x.Body site (wr (i + 1))).bind fun r9=>(hand_cut n x.Else site r9.2).bind fun r11 =>
    bif room s_Stmt.i1.bytes acc.length [(Stmt.mk x.Kind x.Name x.Other x.N x.E r9.1 r11.1 x.At)].length then hand_cut_L0 n ((pre ++ [x]) ++ r) site a2 r11.2 (acc ++ [(Stmt.mk x.Kind x.Name x.Other x.N x.E r9.1 r11.1 x.At)]) ((pre ++ [x]).length) else none) (fun n=>?_) (Ev.bind e1 (Ev.bind e2 (Ev.yes (room32 _ (by omega) _) (by simpa using e3)))))
   simp only [hand_cut_L0,jn,ix_lt,cond_true,ix_get,Option.bind_some,c]
   rw [ix_wr pre x (by omega),← ix_cons]
theorem cut_ev (site : Int) (l : List Stmt) (d : Nat) (i : Int) (ho : okSl d l) (hw : wtl l ≤ 10000) : ∃ l' j,Ev (fun n=>hand_cut n l site i) (l',j) ∧ okSl d l' ∧ wtl l' ≤ wtl l:=by
 have ll:=len_Sl l
 have wl:=szS_wt.2 l _ ho
 obtain ⟨l',j,h1,h2,h3,_⟩:=(cut_all site).2 l d ho (by omega) i [] [] i (by simp; omega) (by simp; omega)
 exact ⟨l',j,Ev.step (Ev.of_eq (fun n=>by simp only [hand_cut]; rfl) h1),h2,h3⟩
theorem without_L0 (D : List Decl) (ts : List (List Stmt)) (site : Int) : ∀ (l pre acc : List (List Stmt)) (i : Int),ts = pre ++ l → ts.length ≤ 1000 → acc.length + l.length ≤ 1000 → okTs l → okTs acc →
  ∃ l',Ev (fun n=>hand_without_L0 n ⟨D,ts⟩ site i acc pre.length) ⟨D,l'⟩ ∧ okTs l' ∧ l'.length = acc.length + l.length
 | [],pre,acc,i,e,h2,h3,o1,o2=>by
  rw [List.append_nil] at e; subst e
  exact ⟨acc,Ev.step (Ev.of_eq (g:=fun n=>some ⟨D,acc⟩) (fun n=>by simp only [hand_without_L0,ix_ge,cond_false]) (Ev.ret _)),o2,by simp⟩
 | t :: r,pre,acc,i,e,h2,h3,o1,o2=>by
  have hp : pre.length + 1 ≤ 1000:=by rw [e] at h2; simp at h2; omega
  have ha : acc.length + 1 + r.length ≤ 1000:=by simp at h3; omega
  obtain ⟨ot,wt_⟩:=o1 t (by simp)
  obtain ⟨t',j,e1,p1,w1⟩:=cut_ev site t 2 i ot (by omega)
  obtain ⟨l',e2,p2,w2⟩:=without_L0 D ts site r (pre ++ [t]) (acc ++ [t']) j (by rw [e]; exact ix_cons _ _ _) h2 (by simp; omega) (fun x hx=>o1 x (by simp [hx])) (fun x hx=>by
   rcases List.mem_append.1 hx with hx | hx
   ·exact o2 x hx
   ·rw [List.mem_singleton] at hx; subst hx; exact ⟨p1,by omega⟩)
  refine ⟨l',?_,p2,by rw [w2]; simp; omega⟩
  subst e
  refine Ev.step (Ev.of_eq (g:=fun n=>(hand_cut n t site i).bind fun r5=>bif room s_LStmt.i1.bytes acc.length [r5.1].length then hand_without_L0 n ⟨D,pre ++ t :: r⟩ site r5.2 (acc ++ [r5.1]) ((pre ++ [t]).length) else none) (fun n=>?_) (Ev.bind e1 (Ev.yes (roomT _ _ (by simp; omega)) e2)))
  simp only [hand_without_L0,ix_lt,cond_true,ix_get,Option.bind_some]
  rw [ix_wr pre t (by omega)]
theorem szT_ok : ∀ ts : List (List Stmt),okTs ts → szT ts ≤ 641 * ts.length
 | [],_=>by simp [szT]
 | t :: r,h=>by
  have h1:=h t (by simp)
  have h2:=szT_ok r (fun x hx=>h x (by simp [hx]))
  have h3:=szS_wt.2 t 2 h1.1
  rw [szT,List.length_cons]; omega
end Go.Su.Ytepcmciljmennaa
