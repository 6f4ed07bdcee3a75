/-
  What stands within is nested; a guard of some names wraps no more than a guard of each alone.
-/
import Derived.Test.YtcadbebhhnggdaaZdPlCostC
import Derived.Test.YtcadbebhhnggdaaZdDxF
import Derived.KernelRfl
namespace Go.Su.Ytcadbebhhnggdaa
open Go.Mx Go.Proofs
set_option linter.unusedVariables false
set_option linter.unusedSimpArgs false
set_option maxHeartbeats 4000000
theorem nx_bd (w k m B c : Int) (h0 : 0 ≤ w) (m0 : 0 ≤ m) (m9 : m ≤ 9) (hc : 1 ≤ c) (h : w * (c * 9) ≤ B) (hB : B ≤ 1000000000) : 0 ≤ nx w k m ∧ nx w k m * c ≤ B ∧ w ≤ B:=by
 have e : w * (c * 9) = 9 * (w * c):=by rw [Int.mul_comm c 9,← Int.mul_assoc,Int.mul_comm w 9,Int.mul_assoc]
 have hwc : w ≤ w * c:=by
  have:=Int.mul_le_mul_of_nonneg_left hc h0
  omega
 have hm1 : 0 ≤ w * m:=Int.mul_nonneg h0 m0
 have hm2 : w * m ≤ w * 9:=Int.mul_le_mul_of_nonneg_left m9 h0
 have hwr : wr (w * m) = w * m:=wr_of (by omega)
 unfold nx
 cases (k == 8)
 ·exact ⟨h0,by show w * c ≤ B; omega,by omega⟩
 ·refine ⟨by show 0 ≤ wr (w * m); omega,?_,by omega⟩
  show wr (w * m) * c ≤ B
  rw [hwr]
  have : w * m * c ≤ w * 9 * c:=Int.mul_le_mul_of_nonneg_right hm2 (by omega)
  have e2 : w * 9 * c = 9 * (w * c):=by rw [Int.mul_comm w 9,Int.mul_assoc]
  omega
theorem pow9 : ∀ d : Nat,(1 : Int) ≤ 9 ^ d
 | 0=>by simp
 | d + 1=>by have:=pow9 d; rw [Int.pow_succ]; omega
theorem wg_bd (B : Int) (hB : B ≤ 1000000000) : (∀ s : Stmt,∀ (d : Nat) (w : Int),0 ≤ s.N → s.N ≤ 9 → wfl d s.Body → wfl d s.Else → 0 ≤ w → w * (9 ^ d * 9) ≤ B → ∀ v ∈ wgS s w,0 ≤ v ∧ v ≤ B) ∧
  ∀ l : List Stmt,∀ (d : Nat) (w : Int),wfl d l → 0 ≤ w → w * 9 ^ d ≤ B → ∀ v ∈ wgL l w,0 ≤ v ∧ v ≤ B:=by
 refine stmt_ind ?_ (fun d w _ _ _ v hv=>by simp [wgL] at hv) ?_
 ·intro k u o m e b l a hb hl d w m0 m9 h1 h2 h3 h4 v hv
  obtain ⟨n1,n2,n3⟩:=nx_bd w k m B (9 ^ d) h3 m0 m9 (pow9 d) h4 hB
  rw [wgS,List.mem_cons,List.mem_append] at hv
  rcases hv with rfl | hv | hv
  ·exact ⟨h3,n3⟩
  ·exact hb d _ h1 n1 n2 v hv
  ·exact hl d _ h2 n1 n2 v hv
 ·intro s r hs hr d w h h3 h4 v hv
  cases d with
  | zero=>exact absurd (show s :: r = [] from h) (by simp)
  | succ d =>
   rw [wgL,List.mem_append] at hv
   rcases hv with hv | hv
   ·obtain ⟨_,q2,q3,q4,q5⟩:=h s (by simp)
    exact hs d w q2 q3 q4 q5 h3 (by rw [← Int.pow_succ]; exact h4) v hv
   ·exact hr (d + 1) w (fun y hy=>h y (by simp [hy])) h3 h4 v hv
theorem wgT_bd : ∀ ts : List (List Stmt),(∀ t ∈ ts,wfl 8 t) → ∀ v ∈ wgT ts,0 ≤ v ∧ v ≤ 43046721
 | [],_,v,hv=>by simp [wgT] at hv
 | t :: r,h,v,hv=>by
  rw [wgT,List.mem_append] at hv
  rcases hv with hv | hv
  ·exact (wg_bd 43046721 (by omega)).2 t 8 1 (h t (by simp)) (by omega) (by decide) v hv
  ·exact wgT_bd r (fun x hx=>h x (by simp [hx])) v hv
theorem one_add : FloatKind.f64.format.add 4607182418800017408 0 = some 4607182418800017408:=by kernel_rfl
theorem near0 : FloatKind.f64.nearest ((0 : Nat) : Int) = 0:=by kernel_rfl
theorem cadd_nat (a b : Nat) (h : a + b < 2 ^ 53) : cadd ⟨FloatKind.f64.nearest (a : Int),4607182418800017408⟩ ⟨FloatKind.f64.nearest (b : Int),0⟩ = some ⟨FloatKind.f64.nearest ((a + b : Nat) : Int),4607182418800017408⟩:=by
 unfold cadd
 simp only [add_nat a b h,one_add,Option.bind_some]
theorem Upgrade_L0 (p : Prog) (nm : ByteArray) (W : List Int) (S : List Stmt) (hl : W.length = S.length) (hS : S.length ≤ 100000) (hz : ∀ x ∈ S,szE x.E ≤ 1000000) (hW : ∀ v ∈ W,0 ≤ v ∧ v ≤ 43046721) :
  ∀ (m i s : Nat),S.length - i ≤ m → i ≤ S.length → s ≤ 43046721 * i →
   ∃ r : Nat,Ev (fun n=>cost_Upgrade_L0 n p nm W S ⟨FloatKind.f64.nearest (s : Int),4607182418800017408⟩ (i : Int)) ⟨FloatKind.f64.nearest (r : Int),4607182418800017408⟩ ∧ r ≤ 4304672100000
 | m,i,s,h1,h2,h3=>by
  by_cases hi : i < S.length
  ·match m,h1 with
   | 0,h1=>exact absurd h1 (by omega)
   | m + 1,h1 =>
    have d1 : decide ((i : Int) < ln S) = true:=decide_eq_true (by show (i : Int) < (S.length : Int); omega)
    have i1 : idx S (i : Int) = some S[i]:=idx_of (by omega) (by rw [Int.toNat_natCast]; exact List.getElem?_eq_getElem hi)
    have i2 : idx W (i : Int) = some (W[i]'(by omega)):=idx_of (by omega) (by rw [Int.toNat_natCast]; exact List.getElem?_eq_getElem (by omega))
    have e3 : wr ((i : Int) + 1) = ((i + 1 : Nat) : Int):=by rw [wr_of (by omega)]; rfl
    have t1:=touches_ev S[i] [nm] (hz _ (List.getElem_mem hi)) (by simp)
    have hw:=hW _ (List.getElem_mem (show i < W.length by omega))
    obtain ⟨v,hv⟩ : ∃ v : Nat,(W[i]'(by omega)) = (v : Int):=⟨(W[i]'(by omega)).toNat,by omega⟩
    rw [hv] at i2 hw
    have hc:=cadd_nat s v (by omega)
    have b1 : ∀ n,cost_Upgrade_L0 (n + 1) p nm W S ⟨FloatKind.f64.nearest (s : Int),4607182418800017408⟩ (i : Int) = (cost_touches n S[i] [nm]).bind fun r8=>bif r8 then cost_Upgrade_L0 n p nm W S ⟨FloatKind.f64.nearest ((s + v : Nat) : Int),4607182418800017408⟩ ((i + 1 : Nat) : Int) else cost_Upgrade_L0 n p nm W S ⟨FloatKind.f64.nearest (s : Int),4607182418800017408⟩ ((i + 1 : Nat) : Int):=by
     intro n
     simp only [cost_Upgrade_L0,d1,cond_true,i1,i2,Option.bind_some,jn,e3,cost_whole,hc]
    cases c : hit S[i] [nm]
    ·obtain ⟨r,k1,k3⟩:=Upgrade_L0 p nm W S hl hS hz hW m (i + 1) s (by omega) (by omega) (by omega)
     exact ⟨r,Ev.step (Ev.of_eq b1 (Ev.bind t1 (Ev.no c k1))),k3⟩
    ·obtain ⟨r,k1,k3⟩:=Upgrade_L0 p nm W S hl hS hz hW m (i + 1) (s + v) (by omega) (by omega) (by omega)
     exact ⟨r,Ev.step (Ev.of_eq b1 (Ev.bind t1 (Ev.yes c k1))),k3⟩
  ·have d1 : decide ((i : Int) < ln S) = false:=decide_eq_false (by show ¬ (i : Int) < (S.length : Int); omega)
   exact ⟨s,Ev.step (Ev.of_eq (g:=fun n=>some _) (fun n=>by simp only [cost_Upgrade_L0,d1,cond_false]) (Ev.ret _)),by omega⟩
theorem Upgrade_ev (D : List Decl) (ts : List (List Stmt)) (nm : ByteArray) (hz : szT ts ≤ 40000) (hw : ∀ t ∈ ts,wfl 8 t) : ∃ r : Nat,Ev (fun n=>cost_Upgrade n ⟨D,ts⟩ nm) ⟨FloatKind.f64.nearest (r : Int),4607182418800017408⟩ ∧ r ≤ 4304672100000:=by
 have l1:=len_T ts
 obtain ⟨r,k1,k3⟩:=Upgrade_L0 ⟨D,ts⟩ nm (wgT ts) (flats ts) (wgT_len ts) (by omega) (fun x hx=>by
  have h1:=sz_flats ts x hx
  have : ∀ s : Stmt,szE s.E ≤ szS s:=by intro s; cases s; simp only [szS]; omega
  have:=this x; omega) (wgT_bd ts hw) (flats ts).length 0 0 (by omega) (by omega) (by omega)
 rw [near0] at k1
 exact ⟨r,Ev.of_eq (g:=fun n=>(cost_Weights n ⟨D,ts⟩).bind fun r1=>(tree_List n ⟨D,ts⟩).bind fun r2=>cost_Upgrade_L0 n ⟨D,ts⟩ nm r1 r2 ⟨0,4607182418800017408⟩ 0) (fun n=>by simp only [cost_Upgrade]) (Ev.bind (Weights_ev D ts (by omega)) (Ev.bind (List_ev D ts (by omega)) k1)),k3⟩
end Go.Su.Ytcadbebhhnggdaa
namespace Go.Su.Ytcadbebhhnggdaa
open Go.Mx Go.Proofs
set_option linter.unusedVariables false
set_option linter.unusedSimpArgs false
set_option maxHeartbeats 4000000
def wrp (r : List Stmt) (nm : List ByteArray) : Nat → Nat → List Nat
 | 0,_=>[]
 | m + 1,i=>match r[i]? with
  | none=>[]
  | some s=>bif hit s nm then i :: wrp r nm m (i + (wn s + 1)) else wrp r nm m (i + 1)
def cov (r : List Stmt) (i k : Nat) : Bool:=match r[k]? with
 | none=>false
 | some s=>decide (k ≤ i) && decide (i ≤ k + wn s)
theorem wrp_L0 (p : Prog) (nm : List ByteArray) (hn : nm.length ≤ 4000000) (r1 : List Stmt) (hr : r1.length ≤ 900000) (hz : ∀ x ∈ r1,szS x ≤ 900000) : ∀ (m i : Nat) (acc : List Int),r1.length - i ≤ m → i ≤ 2000000 → acc.length + (r1.length - i) ≤ 1000000 →
  Ev (fun n=>cost_Wrapped_L0 n p nm r1 acc (i : Int)) (acc ++ (wrp r1 nm m i).map fun (k : Nat)=>(k : Int))
 | m,i,acc,h1,h2,h3=>by
  by_cases hi : i < r1.length
  ·match m,h1 with
   | 0,h1=>exact absurd h1 (by omega)
   | m + 1,h1 =>
    have d1 : decide ((i : Int) < ln r1) = true:=decide_eq_true (by show (i : Int) < (r1.length : Int); omega)
    have g1 : r1[i]? = some r1[i]:=List.getElem?_eq_getElem hi
    have i1 : idx r1 (i : Int) = some r1[i]:=idx_of (by omega) (by rw [Int.toNat_natCast]; exact g1)
    have hs:=hz _ (List.getElem_mem hi)
    have hE : szE r1[i].E ≤ 1000000:=by
     have : ∀ s : Stmt,szE s.E ≤ szS s:=by intro s; cases s; simp only [szS]; omega
     have:=this r1[i]; omega
    have hw:=flat_len.1 r1[i]
    rw [fl1_len] at hw
    have t1:=touches_ev r1[i] nm hE hn
    rw [wrp,g1]
    cases c : hit r1[i] nm
    ·have k1:=wrp_L0 p nm hn r1 hr hz m (i + 1) acc (by omega) (by omega) (by omega)
     have e3 : wr ((i : Int) + 1) = ((i + 1 : Nat) : Int):=by rw [wr_of (by omega)]; rfl
     refine Ev.step (Ev.of_eq (g:=fun n=>(cost_touches n r1[i] nm).bind fun r5=>bif r5 then (bif room s_int.i1.bytes acc.length [(i : Int)].length then (cost_size n r1[i]).bind fun r8=>cost_Wrapped_L0 n p nm r1 (acc ++ [(i : Int)]) (wr ((i : Int) + r8)) else none) else cost_Wrapped_L0 n p nm r1 acc ((i + 1 : Nat) : Int)) (fun n=>?_) (Ev.bind t1 (Ev.no c (by simpa [c] using k1))))
     simp only [cost_Wrapped_L0,d1,cond_true,i1,Option.bind_some,e3]
    ·have k1:=wrp_L0 p nm hn r1 hr hz m (i + (wn r1[i] + 1)) (acc ++ [(i : Int)]) (by omega) (by omega) (by simp; omega)
     have e3 : wr ((i : Int) + ((wn r1[i] + 1 : Nat) : Int)) = ((i + (wn r1[i] + 1) : Nat) : Int):=by rw [wr_of (by omega)]; omega
     have q1:=size_ev r1[i] (by omega)
     have rm : room s_int.i1.bytes acc.length [(i : Int)].length = true:=roomC _ _ (by simp; omega)
     refine Ev.step (Ev.of_eq (g:=fun n=>(cost_touches n r1[i] nm).bind fun r5=>bif r5 then (bif room s_int.i1.bytes acc.length [(i : Int)].length then (cost_size n r1[i]).bind fun r8=>cost_Wrapped_L0 n p nm r1 (acc ++ [(i : Int)]) (wr ((i : Int) + r8)) else none) else cost_Wrapped_L0 n p nm r1 acc (wr ((i : Int) + 1))) (fun n=>?_) (Ev.bind t1 (Ev.yes c (Ev.yes rm (Ev.bind q1 (by rw [e3]; simpa [c] using k1))))))
     simp only [cost_Wrapped_L0,d1,cond_true,i1,Option.bind_some]
  ·have d1 : decide ((i : Int) < ln r1) = false:=decide_eq_false (by show ¬ (i : Int) < (r1.length : Int); omega)
   have hc : ∀ n,Clip_int n acc = some acc:=fun n=>by simp only [Clip_int,sub_all,Option.bind_some]
   have g1 : r1[i]? = none:=List.getElem?_eq_none (by omega)
   have e : wrp r1 nm m i = []:=by cases m <;> simp [wrp,g1]
   rw [e]
   exact Ev.step (Ev.of_eq (g:=fun n=>some acc) (fun n=>by simp only [cost_Wrapped_L0,d1,cond_false,hc,Option.bind_some]) (by simpa using Ev.ret acc))
theorem wrp_ev (D : List Decl) (ts : List (List Stmt)) (nm : List ByteArray) (hn : nm.length ≤ 4000000) (hz : szT ts ≤ 100000) : Ev (fun n=>cost_Wrapped n ⟨D,ts⟩ nm) ((wrp (flats ts) nm (flats ts).length 0).map fun (k : Nat)=>(k : Int)):=by
 have l1:=len_T ts
 have k1:=wrp_L0 ⟨D,ts⟩ nm hn (flats ts) (by omega) (fun x hx=>by have:=sz_flats ts x hx; omega) (flats ts).length 0 [] (by omega) (by omega) (by simp; omega)
 exact Ev.of_eq (g:=fun n=>(tree_List n ⟨D,ts⟩).bind fun r1=>cost_Wrapped_L0 n ⟨D,ts⟩ nm r1 [] 0) (fun n=>by simp only [cost_Wrapped]) (Ev.bind (List_ev D ts (by omega)) k1)
theorem wrp_lo (r : List Stmt) (nm : List ByteArray) : ∀ (m i k : Nat),k ∈ wrp r nm m i → i ≤ k ∧ ∃ s,r[k]? = some s ∧ hit s nm = true
 | 0,i,k,h=>by simp [wrp] at h
 | m + 1,i,k,h=>by
  rw [wrp] at h
  cases g : r[i]? with
  | none=>rw [g] at h; simp at h
  | some s =>
   rw [g] at h
   cases c : hit s nm
   ·simp only [c,cond_false] at h
    have:=wrp_lo r nm m (i + 1) k h
    exact ⟨by omega,this.2⟩
   ·simp only [c,cond_true] at h
    rcases List.mem_cons.1 h with rfl | h
    ·exact ⟨Nat.le_refl _,s,g,c⟩
    ·have:=wrp_lo r nm m (i + (wn s + 1)) k h
     exact ⟨by omega,this.2⟩
theorem cov_lt (r : List Stmt) (i k : Nat) (h : i < k) : cov r i k = false:=by
 unfold cov; split
 ·rfl
 ·rw [decide_eq_false (by omega)]; rfl
theorem cnt_zero (r : List Stmt) (i : Nat) : ∀ L : List Nat,(∀ k ∈ L,i < k) → (L.filter (cov r i)).length = 0
 | [],_=>rfl
 | k :: L,h=>by
  rw [List.filter_cons,cov_lt r i k (h k (by simp))]
  exact cnt_zero r i L fun x hx=>h x (by simp [hx])
theorem wrp_cnt (r : List Stmt) (nm : List ByteArray) : ∀ (m i j : Nat),r.length - i ≤ m → i ≤ j → ((wrp r nm m i).filter (cov r j)).length ≤ 1 ∧ ∀ s,r[j]? = some s → hit s nm = true → ((wrp r nm m i).filter (cov r j)).length = 1
 | 0,i,j,h1,h2=>⟨by simp [wrp],fun s hs=>by rw [List.getElem?_eq_none (by omega)] at hs; cases hs⟩
 | m + 1,i,j,h1,h2=>by
  rw [wrp]
  cases g : r[i]? with
  | none =>
   have : r.length ≤ i:=List.getElem?_eq_none_iff.1 g
   exact ⟨by simp,fun s hs=>by rw [List.getElem?_eq_none (by omega)] at hs; cases hs⟩
  | some s =>
   cases c : hit s nm
   ·simp only [c,cond_false]
    by_cases hj : j = i
    ·subst hj
     have z:=cnt_zero r j (wrp r nm m (j + 1)) fun k hk=>by have:=(wrp_lo r nm m (j + 1) k hk).1; omega
     exact ⟨by omega,fun s' hs hh=>by rw [g] at hs; rw [← Option.some.inj hs,c] at hh; cases hh⟩
    ·exact wrp_cnt r nm m (i + 1) j (by omega) (by omega)
   ·simp only [c,cond_true,List.filter_cons]
    by_cases hj : j ≤ i + wn s
    ·have e : cov r j i = true:=by unfold cov; rw [g]; simp only [decide_eq_true h2,decide_eq_true hj]; rfl
     have z:=cnt_zero r j (wrp r nm m (i + (wn s + 1))) fun k hk=>by have:=(wrp_lo r nm m (i + (wn s + 1)) k hk).1; omega
     rw [e]
     simp only [if_true,List.length_cons,z]
     exact ⟨by omega,fun _ _ _=>by simp⟩
    ·have e : cov r j i = false:=by unfold cov; rw [g]; simp only [decide_eq_false hj,Bool.and_false]
     rw [e]
     exact wrp_cnt r nm m (i + (wn s + 1)) j (by omega) (by omega)
end Go.Su.Ytcadbebhhnggdaa
namespace Go.Su.Ytcadbebhhnggdaa
open Go.Mx Go.Proofs
set_option linter.unusedVariables false
set_option linter.unusedSimpArgs false
set_option maxHeartbeats 4000000
theorem near2 : FloatKind.f64.nearest ((2 : Nat) : Int) = 4611686018427387904:=by kernel_rfl
theorem mul00 : FloatKind.f64.format.mul 0 0 = some 0:=by kernel_rfl
theorem mul20 : FloatKind.f64.format.mul 4611686018427387904 0 = some 0:=by kernel_rfl
theorem add00 : FloatKind.f64.format.add 0 0 = some 0:=by kernel_rfl
theorem cmul_nat (v : Nat) (h : 2 * v < 2 ^ 53) : cmul ⟨4611686018427387904,0⟩ ⟨FloatKind.f64.nearest (v : Int),0⟩ = some ⟨FloatKind.f64.nearest ((2 * v : Nat) : Int),0⟩:=by
 have e1 : FloatKind.f64.format.mul 4611686018427387904 (FloatKind.f64.nearest (v : Int)) = some (FloatKind.f64.nearest ((2 * v : Nat) : Int)):=by
  rw [← near2]; exact mul_nat 2 v (by omega) (by omega) h
 have e2 : FloatKind.f64.format.mul 0 (FloatKind.f64.nearest (v : Int)) = some 0:=by
  have:=mul_nat 0 v (by omega) (by omega) (by omega)
  rw [Nat.zero_mul,near0] at this; exact this
 have e3:=sub_zero_nat (2 * v) h
 unfold cmul
 simp only [e1,mul00,e3,mul20,e2,add00,Option.bind_some]
def gsum (W : List Int) : List Nat → Nat
 | []=>0
 | k :: r=>2 * (W.getD k 0).toNat + gsum W r
theorem getD_bd (W : List Int) (hW : ∀ v ∈ W,0 ≤ v ∧ v ≤ 43046721) (k : Nat) (hk : k < W.length) : ∃ v : Nat,idx W (k : Int) = some (v : Int) ∧ (W.getD k 0).toNat = v ∧ v ≤ 43046721:=by
 have i2 : idx W (k : Int) = some (W[k]'hk):=idx_of (by omega) (by rw [Int.toNat_natCast]; exact List.getElem?_eq_getElem hk)
 have hw:=hW _ (List.getElem_mem hk)
 refine ⟨(W[k]'hk).toNat,by rw [i2]; congr 1; omega,by simp [List.getD_eq_getElem?_getD,hk],by omega⟩
theorem gsum_le (W : List Int) (hW : ∀ v ∈ W,0 ≤ v ∧ v ≤ 43046721) : ∀ L : List Nat,(∀ k ∈ L,k < W.length) → gsum W L ≤ 86093442 * L.length
 | [],_=>by simp [gsum]
 | k :: r,h=>by
  obtain ⟨v,_,h2,h3⟩:=getD_bd W hW k (h k (by simp))
  have:=gsum_le W hW r fun x hx=>h x (by simp [hx])
  rw [gsum,h2,List.length_cons]; omega
theorem Guard_L0 (p : Prog) (nm : List ByteArray) (W : List Int) (hW : ∀ v ∈ W,0 ≤ v ∧ v ≤ 43046721) (L : List Nat) (hL : L.length ≤ 1000000) (hk : ∀ k ∈ L,k < W.length) :
  ∀ (l pre : List Nat) (s : Nat),L = pre ++ l → s ≤ 86093442 * pre.length → Ev (fun n=>cost_Guard_L0 n p nm W (L.map fun (k : Nat)=>(k : Int)) ⟨FloatKind.f64.nearest (s : Int),4607182418800017408⟩ pre.length) ⟨FloatKind.f64.nearest ((s + gsum W l : Nat) : Int),4607182418800017408⟩
 | [],pre,s,e,hs=>by
  rw [List.append_nil] at e
  subst e
  have d1 : decide ((L.length : Int) < ln (L.map fun (k : Nat)=>(k : Int))) = false:=decide_eq_false (by show ¬ (L.length : Int) < (((L.map fun (k : Nat)=>(k : Int)).length : Nat) : Int); simp)
  exact Ev.step (Ev.of_eq (g:=fun n=>some ⟨FloatKind.f64.nearest (s : Int),4607182418800017408⟩) (fun n=>by simp only [cost_Guard_L0,d1,cond_false]) (by simpa [gsum] using Ev.ret _))
 | k :: r,pre,s,e,hs=>by
  have hp : pre.length + 1 ≤ 1000000:=by rw [e] at hL; simp at hL; omega
  have d1 : decide ((pre.length : Int) < ln (L.map fun (k : Nat)=>(k : Int))) = true:=decide_eq_true (by show (pre.length : Int) < (((L.map fun (k : Nat)=>(k : Int)).length : Nat) : Int); rw [e]; simp; omega)
  have i1 : idx (L.map fun (k : Nat)=>(k : Int)) (pre.length : Int) = some (k : Int):=idx_of (by omega) (by rw [Int.toNat_natCast,e]; simp)
  obtain ⟨v,i2,h2,h3⟩:=getD_bd W hW k (hk k (by rw [e]; simp))
  have e3 : wr ((pre.length : Int) + 1) = ((pre ++ [k]).length : Int):=ix_wr pre k (by omega)
  have hm:=cmul_nat v (by omega)
  have hc:=cadd_nat s (2 * v) (by omega)
  have nx:=Guard_L0 p nm W hW L hL hk r (pre ++ [k]) (s + 2 * v) (by rw [e]; exact ix_cons _ _ _) (by simp; omega)
  rw [gsum,h2,← Nat.add_assoc]
  refine Ev.step (Ev.of_eq (fun n=>?_) nx)
  simp only [cost_Guard_L0,d1,cond_true,i1,i2,Option.bind_some,cost_whole,hm,hc,e3]
theorem wrp_len (S : List Stmt) (nm : List ByteArray) : ∀ m i,(wrp S nm m i).length ≤ m
 | 0,i=>by simp [wrp]
 | m + 1,i=>by
  rw [wrp]
  cases g : S[i]? with
  | none=>simp
  | some s =>
   cases c : hit s nm
   ·simp only [c,cond_false]; have:=wrp_len S nm m (i + 1); omega
   ·simp only [c,cond_true,List.length_cons]; have:=wrp_len S nm m (i + (wn s + 1)); omega
theorem wrp_mem (S : List Stmt) (nm : List ByteArray) (m i k : Nat) (hk : k ∈ wrp S nm m i) : k < S.length:=by
 obtain ⟨_,s,hs,_⟩:=wrp_lo _ _ _ _ _ hk
 exact (List.getElem?_eq_some_iff.1 hs).1
def gw (ts : List (List Stmt)) (nm : List ByteArray) : Nat:=gsum (wgT ts) (wrp (flats ts) nm (flats ts).length 0)
theorem Guard_ev (D : List Decl) (ts : List (List Stmt)) (nm : List ByteArray) (hn : nm.length ≤ 4000000) (hz : szT ts ≤ 40000) (hw : ∀ t ∈ ts,wfl 8 t) : Ev (fun n=>cost_Guard n ⟨D,ts⟩ nm) ⟨FloatKind.f64.nearest ((gw ts nm : Nat) : Int),4607182418800017408⟩ ∧ gw ts nm ≤ 8609344200000:=by
 have l1:=len_T ts
 have w1:=wrp_ev D ts nm hn (by omega)
 have hl:=wrp_len (flats ts) nm (flats ts).length 0
 have hm : ∀ k ∈ wrp (flats ts) nm (flats ts).length 0,k < (wgT ts).length:=fun k hk=>by rw [wgT_len]; exact wrp_mem _ _ _ _ _ hk
 have k1:=Guard_L0 ⟨D,ts⟩ nm (wgT ts) (wgT_bd ts hw) _ (by omega) hm _ [] 0 rfl (by simp)
 have k2:=gsum_le (wgT ts) (wgT_bd ts hw) _ hm
 rw [near0,Nat.zero_add] at k1
 exact ⟨Ev.of_eq (g:=fun n=>(cost_Weights n ⟨D,ts⟩).bind fun r1=>(cost_Wrapped n ⟨D,ts⟩ nm).bind fun r2=>cost_Guard_L0 n ⟨D,ts⟩ nm r1 r2 ⟨0,4607182418800017408⟩ 0) (fun n=>by simp only [cost_Guard]) (Ev.bind (Weights_ev D ts (by omega)) (Ev.bind w1 k1)),by unfold gw; omega⟩
end Go.Su.Ytcadbebhhnggdaa
namespace Go.Su.Ytcadbebhhnggdaa
open Go.Mx Go.Proofs
set_option linter.unusedVariables false
set_option linter.unusedSimpArgs false
set_option maxHeartbeats 4000000
theorem roomCa (a b : Nat) (h : a + b ≤ 1000) : room s_Cand.i1.bytes a b = true:=room_of (by
 have : s_Cand.i1.bytes ≤ 1000:=by decide
 have:=Nat.mul_le_mul h this
 omega)
theorem shl24 : ((List.range 24).all fun k=>(match ishl .i64 1 (IntKind.u64.wrap (k : Nat)) with | some p=>p == (2 ^ k : Nat) | none=>false)) = true:=by kernel_rfl
theorem shl_of (k : Nat) (h : k < 24) : ishl .i64 1 (IntKind.u64.wrap (k : Int)) = some ((2 ^ k : Nat) : Int):=by
 have:=(List.all_eq_true.1 shl24) k (List.mem_range.2 h)
 cases e : ishl .i64 1 (IntKind.u64.wrap (k : Nat)) with
 | none=>rw [e] at this; cases this
 | some p=>rw [e] at this; rw [eq_of_beq this]
def bitK (a : Int) (k : Nat) : Bool:=((wr (a.tdiv ((2 ^ k : Nat) : Int))).tmod 2) != 0
theorem bit8 (a : Int) (h0 : 0 ≤ a) (h1 : a < 256) (k : Nat) (h : 8 ≤ k) : bitK a k = false:=by
 have h2 : 2 ^ 8 ≤ 2 ^ k:=Nat.pow_le_pow_right (by omega) h
 have h3 : a.tdiv ((2 ^ k : Nat) : Int) = 0:=by
  rw [Int.tdiv_eq_ediv_of_nonneg h0]
  exact Int.ediv_eq_zero_of_lt h0 (by omega)
 unfold bitK
 rw [h3]; rfl
def rcy (a : Int) : List Decl → Nat → List Int
 | [],_=>[]
 | d :: r,k=>(bif decide (d.Kind ≤ 2) && bitK a k then [(k : Int)] else []) ++ rcy a r (k + 1)
theorem racy_L0 (D : List Decl) (ts : List (List Stmt)) (a : Int) (hD : D.length ≤ 24) : ∀ (l pre : List Decl) (acc : List Int),D = pre ++ l → acc.length ≤ pre.length → Ev (fun n=>law23_racy_L0 n ⟨D,ts⟩ a acc pre.length) (acc ++ rcy a l pre.length)
 | [],pre,acc,e,h=>by
  rw [List.append_nil] at e
  exact Ev.step (Ev.of_eq (g:=fun n=>some acc) (fun n=>by simp only [law23_racy_L0,e,ix_ge,cond_false]) (by simpa [rcy] using Ev.ret acc))
 | d :: r,pre,acc,e,h=>by
  have hp : pre.length < 24:=by rw [e] at hD; simp at hD; omega
  have sh:=shl_of pre.length hp
  have p0 : ((((2 ^ pre.length : Nat) : Int)) == 0) = false:=by
   have:=Nat.pow_pos (n:=pre.length) (show 0 < 2 by omega)
   exact beq_eq_false_iff_ne.2 (fun q=>by have:=Int.ofNat_eq_zero.1 q; omega)
  have rm : room s_int.i1.bytes acc.length [(pre.length : Int)].length = true:=roomC _ _ (by simp; omega)
  have hb : (((wr (a.tdiv ((2 ^ pre.length : Nat) : Int))).tmod 2) != 0) = bitK a pre.length:=rfl
  have nx : ∀ acc' : List Int,acc'.length ≤ pre.length + 1 → Ev (fun n=>law23_racy_L0 n ⟨D,ts⟩ a acc' ((pre ++ [d]).length)) (acc' ++ rcy a r (pre.length + 1)):=fun acc' h'=>by
   have:=racy_L0 D ts a hD r (pre ++ [d]) acc' (by rw [e]; exact ix_cons _ _ _) (by simp; omega)
   simpa using this
  rw [rcy]
  have w:=ix_wr pre d (by omega)
  have d1 : decide ((pre.length : Int) < ln D) = true:=by rw [e]; exact ix_lt _ _ _
  have g1 : idx D (pre.length : Int) = some d:=by rw [e]; exact ix_get _ _ _
  cases c1 : decide (d.Kind ≤ 2)
  ·refine Ev.step (Ev.of_eq (fun n=>?_) (by simpa only [Bool.false_and,Bool.and_false,cond_false,List.nil_append] using nx acc (by omega)))
   simp only [law23_racy_L0,d1,g1,jn,cond_true,cond_false,Option.bind_some,c1,w]
  ·cases c2 : bitK a pre.length
   ·refine Ev.step (Ev.of_eq (fun n=>?_) (by simpa only [Bool.false_and,Bool.and_false,cond_false,List.nil_append] using nx acc (by omega)))
    simp only [law23_racy_L0,d1,g1,jn,cond_true,cond_false,Option.bind_some,c1,w,sh,p0,hb,c2]
   ·refine Ev.step (Ev.of_eq (fun n=>?_) (by simpa only [Bool.true_and,cond_true,List.append_assoc] using nx (acc ++ [(pre.length : Int)]) (by simp; omega)))
    simp only [law23_racy_L0,d1,g1,jn,cond_true,cond_false,Option.bind_some,c1,w,sh,p0,hb,c2,rm]
theorem racy_ev (D : List Decl) (ts : List (List Stmt)) (a : Int) (hD : D.length ≤ 24) : Ev (fun n=>law23_racy n ⟨D,ts⟩ a) (rcy a D 0) :=
 Ev.of_eq (fun n=>by simp only [law23_racy]; rfl) (by simpa using racy_L0 D ts a hD D [] [] rfl (by simp))
theorem rcy_len (a : Int) (h0 : 0 ≤ a) (h1 : a < 256) : ∀ (l : List Decl) (k : Nat),(rcy a l k).length ≤ 8 - k
 | [],k=>by simp [rcy]
 | d :: r,k=>by
  have:=rcy_len a h0 h1 r (k + 1)
  rw [rcy]
  by_cases hk : 8 ≤ k
  ·rw [bit8 a h0 h1 k hk,Bool.and_false,cond_false,List.nil_append]; omega
  ·cases (decide (d.Kind ≤ 2) && bitK a k)
   ·simp only [cond_false,List.nil_append]; omega
   ·simp only [cond_true,List.length_append,List.length_singleton]; omega
theorem rcy_mem (a : Int) : ∀ (l : List Decl) (k : Nat) (v : Int),v ∈ rcy a l k → ∃ (j : Nat) (d : Decl),v = ((k + j : Nat) : Int) ∧ l[j]? = some d ∧ d.Kind ≤ 2
 | [],k,v,h=>by simp [rcy] at h
 | d :: r,k,v,h=>by
  rw [rcy,List.mem_append] at h
  rcases h with h | h
  ·cases c : (decide (d.Kind ≤ 2) && bitK a k)
   ·rw [c] at h; simp at h
   ·rw [c] at h
    have hv : v = (k : Int):=by simpa using h
    rw [Bool.and_eq_true] at c
    exact ⟨0,d,by rw [hv]; rfl,rfl,of_decide_eq_true c.1⟩
  ·obtain ⟨j,d',h1,h2,h3⟩:=rcy_mem a r (k + 1) v h
   exact ⟨j + 1,d',by rw [h1,show k + 1 + j = k + (j + 1) by omega],by simpa using h2,h3⟩
def SetsOk (r : List Int) (ss : List (List Int)) : Prop:=(∀ s ∈ ss,∀ v ∈ s,v ∈ r) ∧ ss.filter (fun s=>s.length == 1) = r.map (fun v=>[v]) ∧ ss.length ≤ 100 ∧ ∀ s ∈ ss,s.length ≤ 8
set_option maxRecDepth 100000 in
theorem sets_ev (r : List Int) (h : r.length ≤ 8) : ∃ ss,Ev (fun n=>cands_sets n r) ss ∧ SetsOk r ss:=by
 match r,h with
 | [],_ =>
  refine ⟨[],⟨200,fun n hn=>?_⟩,⟨by simp,rfl,by simp,by simp⟩⟩
  obtain ⟨k,rfl⟩ : ∃ k,n = k + 200:=⟨n - 200,by omega⟩
  kernel_rfl
 | [a],_ =>
  refine ⟨[[a]],⟨200,fun n hn=>?_⟩,⟨by simp,rfl,by simp,by simp⟩⟩
  obtain ⟨k,rfl⟩ : ∃ k,n = k + 200:=⟨n - 200,by omega⟩
  kernel_rfl
 | [a,b],_ =>
  refine ⟨[[a],[b],[a,b]],⟨200,fun n hn=>?_⟩,⟨by simp,rfl,by simp,by simp⟩⟩
  obtain ⟨k,rfl⟩ : ∃ k,n = k + 200:=⟨n - 200,by omega⟩
  kernel_rfl
 | [a,b,c],_ =>
  refine ⟨[[a],[b],[a,b],[c],[a,c],[b,c],[a,b,c]],⟨200,fun n hn=>?_⟩,⟨by simp,rfl,by simp,by simp⟩⟩
  obtain ⟨k,rfl⟩ : ∃ k,n = k + 200:=⟨n - 200,by omega⟩
  kernel_rfl
 | [a,b,c,d],_ =>
  refine ⟨[[a],[b],[a,b],[c],[a,c],[b,c],[a,b,c],[d],[a,d],[b,d],[a,b,d],[c,d],[a,c,d],[b,c,d],[a,b,c,d]],⟨200,fun n hn=>?_⟩,⟨by simp,rfl,by simp,by simp⟩⟩
  obtain ⟨k,rfl⟩ : ∃ k,n = k + 200:=⟨n - 200,by omega⟩
  kernel_rfl
 | [a,b,c,d,e],_ =>
  refine ⟨[[a],[b],[c],[d],[e],[a,b,c,d,e]],⟨200,fun n hn=>?_⟩,⟨by simp,rfl,by simp,by simp⟩⟩
  obtain ⟨k,rfl⟩ : ∃ k,n = k + 200:=⟨n - 200,by omega⟩
  kernel_rfl
 | [a,b,c,d,e,f],_ =>
  refine ⟨[[a],[b],[c],[d],[e],[f],[a,b,c,d,e,f]],⟨200,fun n hn=>?_⟩,⟨by simp,rfl,by simp,by simp⟩⟩
  obtain ⟨k,rfl⟩ : ∃ k,n = k + 200:=⟨n - 200,by omega⟩
  kernel_rfl
 | [a,b,c,d,e,f,g],_ =>
  refine ⟨[[a],[b],[c],[d],[e],[f],[g],[a,b,c,d,e,f,g]],⟨200,fun n hn=>?_⟩,⟨by simp,rfl,by simp,by simp⟩⟩
  obtain ⟨k,rfl⟩ : ∃ k,n = k + 200:=⟨n - 200,by omega⟩
  kernel_rfl
 | [a,b,c,d,e,f,g,h],_ =>
  refine ⟨[[a],[b],[c],[d],[e],[f],[g],[h],[a,b,c,d,e,f,g,h]],⟨200,fun n hn=>?_⟩,⟨by simp,rfl,by simp,by simp⟩⟩
  obtain ⟨k,rfl⟩ : ∃ k,n = k + 200:=⟨n - 200,by omega⟩
  kernel_rfl
 | a :: b :: c :: d :: e :: f :: g :: h :: i :: r,hr=>exact absurd hr (by simp)
def nm1 (D : List Decl) (v : Int) : ByteArray:=match D[v.toNat]? with
 | some d=>d.Name
 | none=>ByteArray.empty
def pln (D : List Decl) (v : Int) : Bool:=match D[v.toNat]? with
 | some d=>d.Kind == 1
 | none=>false
def InD (D : List Decl) (r : List Int) : Prop:=∀ v ∈ r,∃ k : Nat,v = (k : Int) ∧ k < D.length
theorem inD_get {D : List Decl} {v : Int} (h : ∃ k : Nat,v = (k : Int) ∧ k < D.length) : ∃ d,idx D v = some d ∧ nm1 D v = d.Name ∧ pln D v = (d.Kind == 1):=by
 obtain ⟨k,rfl,hk⟩:=h
 have g : D[k]? = some D[k]:=List.getElem?_eq_getElem hk
 exact ⟨D[k],idx_of (by omega) (by rw [Int.toNat_natCast]; exact g),by simp [nm1,g],by simp [pln,g]⟩
theorem named_L0 (D : List Decl) (ts : List (List Stmt)) (s : List Int) (hs : s.length ≤ 100) (hi : InD D s) : ∀ (l pre : List Int),s = pre ++ l → Ev (fun n=>cands_named_L0 n ⟨D,ts⟩ s (pre.map (nm1 D)) pre.length) (s.map (nm1 D))
 | [],pre,e=>by
  rw [List.append_nil] at e
  subst e
  exact Ev.step (Ev.of_eq (g:=fun n=>some (s.map (nm1 D))) (fun n=>by simp only [cands_named_L0,ix_ge,cond_false]) (Ev.ret _))
 | x :: r,pre,e=>by
  have hp : pre.length + 1 ≤ 100:=by rw [e] at hs; simp at hs; omega
  obtain ⟨d,g,hn,_⟩:=inD_get (hi x (by rw [e]; simp))
  have rm : room s_string.i1.bytes (pre.map (nm1 D)).length [d.Name].length = true:=roomW _ _ (by simp; omega)
  have nx:=named_L0 D ts s hs hi r (pre ++ [x]) (by rw [e]; exact ix_cons _ _ _)
  rw [List.map_append,List.map_singleton,hn] at nx
  have d1 : decide ((pre.length : Int) < ln s) = true:=by rw [e]; exact ix_lt _ _ _
  have g1 : idx s (pre.length : Int) = some x:=by rw [e]; exact ix_get _ _ _
  refine Ev.step (Ev.of_eq (fun n=>?_) nx)
  simp only [cands_named_L0,d1,g1,g,rm,cond_true,Option.bind_some]
  rw [ix_wr pre x (by omega)]
theorem named_ev (D : List Decl) (ts : List (List Stmt)) (s : List Int) (hs : s.length ≤ 100) (hi : InD D s) : Ev (fun n=>cands_named n ⟨D,ts⟩ s) (s.map (nm1 D)) :=
 Ev.of_eq (fun n=>by simp only [cands_named]; rfl) (named_L0 D ts s hs hi s [] rfl)
def gc (D : List Decl) (ts : List (List Stmt)) (s : List Int) : Cand:=⟨true,s,⟨FloatKind.f64.nearest ((gw ts (s.map (nm1 D)) : Nat) : Int),4607182418800017408⟩⟩
theorem Of_L1 (D : List Decl) (ts : List (List Stmt)) (r : List Int) (l1 : List Cand) (i2 : Int) (ss : List (List Int)) (hz : szT ts ≤ 40000) (hw : ∀ t ∈ ts,wfl 8 t) (h1 : ss.length ≤ 100) (h8 : ∀ s ∈ ss,s.length ≤ 8) (hi : ∀ s ∈ ss,InD D s) :
  ∀ (l pre : List (List Int)) (acc : List Cand),ss = pre ++ l → acc.length ≤ pre.length + 100 → Ev (fun n=>cands_Of_L1 n ⟨D,ts⟩ r l1 i2 ss acc pre.length) (acc ++ l.map (gc D ts))
 | [],pre,acc,e,h=>by
  rw [List.append_nil] at e
  subst e
  have hs : ∀ n,Clip_Cand n acc = some acc:=fun n=>by simp only [Clip_Cand,sub_all,Option.bind_some]
  exact Ev.step (Ev.of_eq (g:=fun n=>some acc) (fun n=>by simp only [cands_Of_L1,ix_ge,cond_false,hs,Option.bind_some]) (by simpa using Ev.ret acc))
 | s :: t,pre,acc,e,h=>by
  have hp : pre.length + 1 ≤ 100:=by rw [e] at h1; simp at h1; omega
  have hs8:=h8 s (by rw [e]; simp)
  have hsi:=hi s (by rw [e]; simp)
  have d1 : decide ((pre.length : Int) < ln ss) = true:=by rw [e]; exact ix_lt _ _ _
  have g1 : idx ss (pre.length : Int) = some s:=by rw [e]; exact ix_get _ _ _
  have rm0 : room s_int.i1.bytes ([] : List Int).length s.length = true:=roomC _ _ (by simp; omega)
  have cl : ∀ n,Clone_int n s = some s:=fun n=>by simp only [Clone_int,rm0,cond_true,List.nil_append]
  have cp : ∀ n,Clip_int n s = some s:=fun n=>by simp only [Clip_int,sub_all,Option.bind_some]
  obtain ⟨k1,_⟩:=Guard_ev D ts (s.map (nm1 D)) (by simp; omega) hz hw
  have rm : ∀ c : Cand,room s_Cand.i1.bytes acc.length [c].length = true:=fun c=>roomCa _ _ (by simp; omega)
  have nx:=Of_L1 D ts r l1 i2 ss hz hw h1 h8 hi t (pre ++ [s]) (acc ++ [gc D ts s]) (by rw [e]; exact ix_cons _ _ _) (by simp; omega)
  rw [List.append_assoc,List.singleton_append,← List.map_cons] at nx
  refine Ev.step (Ev.of_eq (g:=fun n=>(cands_named n ⟨D,ts⟩ s).bind fun r19=>(cost_Guard n ⟨D,ts⟩ r19).bind fun r20=>bif room s_Cand.i1.bytes acc.length [(Cand.mk true s r20)].length then cands_Of_L1 n ⟨D,ts⟩ r l1 i2 ss (acc ++ [(Cand.mk true s r20)]) ((pre ++ [s]).length) else none) (fun n=>?_) (Ev.bind (named_ev D ts s (by omega) hsi) (Ev.bind k1 (Ev.yes (rm _) nx))))
  simp only [cands_Of_L1,d1,g1,cl,cp,cond_true,Option.bind_some]
  rw [ix_wr pre s (by omega)]
theorem wide_L0 (D : List Decl) (ts : List (List Stmt)) (r : List Int) (h8 : r.length ≤ 100) (hi : InD D r) : ∀ (l pre : List Int),r = pre ++ l → ∃ v,Ev (fun n=>IndexFunc_int_fcands_Of_2_L0 n r ⟨D,ts⟩ pre.length) v
 | [],pre,e=>by
  rw [List.append_nil] at e
  subst e
  exact ⟨-1,Ev.step (Ev.of_eq (g:=fun n=>some (-1)) (fun n=>by simp only [IndexFunc_int_fcands_Of_2_L0,ix_ge,cond_false]) (Ev.ret _))⟩
 | x :: t,pre,e=>by
  have hp : pre.length + 1 ≤ 100:=by rw [e] at h8; simp at h8; omega
  obtain ⟨d,g,_,_⟩:=inD_get (hi x (by rw [e]; simp))
  have d1 : decide ((pre.length : Int) < ln r) = true:=by rw [e]; exact ix_lt _ _ _
  have g1 : idx r (pre.length : Int) = some x:=by rw [e]; exact ix_get _ _ _
  obtain ⟨v,nx⟩:=wide_L0 D ts r h8 hi t (pre ++ [x]) (by rw [e]; exact ix_cons _ _ _)
  cases c : (d.Kind == 1)
  ·refine ⟨pre.length,Ev.step (Ev.of_eq (g:=fun n=>some (pre.length : Int)) (fun n=>?_) (Ev.ret _))⟩
   simp only [IndexFunc_int_fcands_Of_2_L0,d1,g1,cands_Of_2,cands_Of_1,g,c,cond_true,Option.bind_some,Bool.not_false]
  ·refine ⟨v,Ev.step (Ev.of_eq (fun n=>?_) nx)⟩
   simp only [IndexFunc_int_fcands_Of_2_L0,d1,g1,cands_Of_2,cands_Of_1,g,c,cond_true,cond_false,Option.bind_some,Bool.not_true]
   rw [ix_wr pre x (by omega)]
theorem wide_ev (D : List Decl) (ts : List (List Stmt)) (r : List Int) (h8 : r.length ≤ 100) (hi : InD D r) : ∃ b,Ev (fun n=>ContainsFunc_int_fcands_Of_2 n r ⟨D,ts⟩) b:=by
 obtain ⟨v,hv⟩:=wide_L0 D ts r h8 hi r [] rfl
 exact ⟨_,Ev.of_eq (g:=fun n=>(IndexFunc_int_fcands_Of_2_L0 n r ⟨D,ts⟩ 0).bind fun r1=>some (decide (r1 ≥ 0))) (fun n=>by simp only [ContainsFunc_int_fcands_Of_2,IndexFunc_int_fcands_Of_2]) (Ev.bind hv (Ev.ret _))⟩
def UpOk (D : List Decl) (ups : List Cand) (l : List Int) : Prop:=ups.map (fun c=>(c.Guard,c.Names)) = (l.filter (pln D)).map fun v=>(false,[v])
theorem Of_L0 (D : List Decl) (ts : List (List Stmt)) (r : List Int) (ss : List (List Int)) (hz : szT ts ≤ 40000) (hw : ∀ t ∈ ts,wfl 8 t) (hr : r.length ≤ 8) (hi : InD D r) (hss : Ev (fun n=>cands_sets n r) ss) (hok : SetsOk r ss) :
  ∀ (l pre : List Int) (ups : List Cand),r = pre ++ l → ups.length ≤ pre.length → UpOk D ups pre → ∃ ups',UpOk D ups' r ∧ ups'.length ≤ 8 ∧ Ev (fun n=>cands_Of_L0 n ⟨D,ts⟩ r ups pre.length) (ups' ++ ss.map (gc D ts))
 | [],pre,ups,e,h,ho=>by
  rw [List.append_nil] at e
  subst e
  obtain ⟨o1,o2,o3,o4⟩:=hok
  have k1:=Of_L1 D ts r ups (r.length : Int) ss hz hw o3 o4 (fun s hs v hv=>hi v (o1 s hs v hv)) ss [] ups rfl (by simp; omega)
  exact ⟨ups,ho,by omega,Ev.step (Ev.of_eq (g:=fun n=>(cands_sets n r).bind fun r13=>cands_Of_L1 n ⟨D,ts⟩ r ups (r.length : Int) r13 ups 0) (fun n=>by simp only [cands_Of_L0,ix_ge,cond_false]) (Ev.bind hss k1))⟩
 | x :: t,pre,ups,e,h,ho=>by
  have hp : pre.length + 1 ≤ 8:=by rw [e] at hr; simp at hr; omega
  obtain ⟨d,g,hn,hpl⟩:=inD_get (hi x (by rw [e]; simp))
  have d1 : decide ((pre.length : Int) < ln r) = true:=by rw [e]; exact ix_lt _ _ _
  have g1 : idx r (pre.length : Int) = some x:=by rw [e]; exact ix_get _ _ _
  have d8 : decide (ln r ≤ 8) = true:=decide_eq_true (by show ((r.length : Nat) : Int) ≤ 8; omega)
  obtain ⟨b,hb⟩:=wide_ev D ts r (by omega) hi
  cases c : (d.Kind == 1)
  ·obtain ⟨ups',k1,k2,k3⟩:=Of_L0 D ts r ss hz hw hr hi hss hok t (pre ++ [x]) ups (by rw [e]; exact ix_cons _ _ _) (by simp; omega) (by
    unfold UpOk at ho ⊢
    rw [ho,List.filter_append,List.filter_cons_of_neg (by rw [hpl,c]; simp),List.filter_nil,List.append_nil])
   refine ⟨ups',k1,k2,Ev.step (Ev.of_eq (g:=fun n=>(ContainsFunc_int_fcands_Of_2 n r ⟨D,ts⟩).bind fun r6=>cands_Of_L0 n ⟨D,ts⟩ r ups ((pre ++ [x]).length)) (fun n=>?_) (Ev.bind hb k3))⟩
   simp only [cands_Of_L0,d1,g1,jn,cands_Of_1,g,c,cond_true,cond_false,Option.bind_some]
   rw [ix_wr pre x (by omega)]
  ·obtain ⟨u,hu,_⟩:=Upgrade_ev D ts d.Name hz hw
   have rm : ∀ c : Cand,room s_Cand.i1.bytes ups.length [c].length = true:=fun c=>roomCa _ _ (by simp; omega)
   obtain ⟨ups',k1,k2,k3⟩:=Of_L0 D ts r ss hz hw hr hi hss hok t (pre ++ [x]) (ups ++ [⟨false,[x],⟨FloatKind.f64.nearest (u : Int),4607182418800017408⟩⟩]) (by rw [e]; exact ix_cons _ _ _) (by simp; omega) (by
    unfold UpOk at ho ⊢
    rw [List.map_append,ho,List.filter_append,List.map_append,List.filter_cons_of_pos (by rw [hpl,c]),List.filter_nil]; rfl)
   refine ⟨ups',k1,k2,Ev.step (Ev.of_eq (g:=fun n=>(ContainsFunc_int_fcands_Of_2 n r ⟨D,ts⟩).bind fun r6=>(cost_Upgrade n ⟨D,ts⟩ d.Name).bind fun r11=>bif room s_Cand.i1.bytes ups.length [(Cand.mk false [x] r11)].length then cands_Of_L0 n ⟨D,ts⟩ r (ups ++ [(Cand.mk false [x] r11)]) ((pre ++ [x]).length) else none) (fun n=>?_) (Ev.bind hb (Ev.bind hu (Ev.yes (rm _) k3))))⟩
   simp only [cands_Of_L0,d1,g1,jn,cands_Of_1,g,c,d8,cond_true,cond_false,Option.bind_some]
   rw [ix_wr pre x (by omega)]
theorem Of_ev (D : List Decl) (ts : List (List Stmt)) (r : List Int) (ss : List (List Int)) (hz : szT ts ≤ 40000) (hw : ∀ t ∈ ts,wfl 8 t) (hr : r.length ≤ 8) (hi : InD D r) (hss : Ev (fun n=>cands_sets n r) ss) (hok : SetsOk r ss) :
  ∃ ups,UpOk D ups r ∧ ups.length ≤ 8 ∧ Ev (fun n=>cands_Of n ⟨D,ts⟩ r) (ups ++ ss.map (gc D ts)):=by
 obtain ⟨ups,h1,h2,h3⟩:=Of_L0 D ts r ss hz hw hr hi hss hok r [] [] rfl (by simp) rfl
 exact ⟨ups,h1,h2,Ev.of_eq (fun n=>by simp only [cands_Of]; rfl) h3⟩
end Go.Su.Ytcadbebhhnggdaa
namespace Go.Su.Ytcadbebhhnggdaa
open Go.Mx Go.Proofs
set_option linter.unusedVariables false
set_option linter.unusedSimpArgs false
set_option maxHeartbeats 4000000
def Nst (L : List Stmt) : Prop:=(∀ (i : Nat) s,L[i]? = some s → i + wn s < L.length) ∧ ∀ (i j : Nat) s t,L[i]? = some s → L[j]? = some t → i ≤ j → j ≤ i + wn s → j + wn t ≤ i + wn s
theorem nst_nil : Nst []:=⟨fun i s h=>by simp at h,fun i j s t h=>by simp at h⟩
theorem nst_app {A B : List Stmt} (hA : Nst A) (hB : Nst B) : Nst (A ++ B):=by
 obtain ⟨a1,a2⟩:=hA
 obtain ⟨b1,b2⟩:=hB
 have get : ∀ (i : Nat) s,(A ++ B)[i]? = some s → (i < A.length ∧ A[i]? = some s) ∨ (A.length ≤ i ∧ B[i - A.length]? = some s):=by
  intro i s h
  by_cases hi : i < A.length
  ·rw [List.getElem?_append_left hi] at h; exact .inl ⟨hi,h⟩
  ·rw [List.getElem?_append_right (by omega)] at h; exact .inr ⟨by omega,h⟩
 refine ⟨fun i s h=>?_,fun i j s t hs ht hij hj=>?_⟩
 ·rw [List.length_append]
  rcases get i s h with ⟨h1,h2⟩ | ⟨h1,h2⟩
  ·have:=a1 i s h2; omega
  ·have:=b1 _ s h2; omega
 ·rcases get i s hs with ⟨h1,h2⟩ | ⟨h1,h2⟩ <;> rcases get j t ht with ⟨h3,h4⟩ | ⟨h3,h4⟩
  ·exact a2 i j s t h2 h4 hij hj
  ·have:=a1 i s h2; omega
  ·omega
  ·have:=b2 (i - A.length) (j - A.length) s t h2 h4 (by omega) (by omega); omega
theorem nst_cons {x : Stmt} {R : List Stmt} (hw : wn x = R.length) (hR : Nst R) : Nst (x :: R):=by
 obtain ⟨c1,c2⟩:=hR
 refine ⟨fun i s h=>?_,fun i j s t hs ht hij hj=>?_⟩
 ·rw [List.length_cons]
  match i,h with
  | 0,h =>
   have e : x = s:=by simpa using h
   rw [← e,hw]; omega
  | i + 1,h=>have:=c1 i s (by simpa using h); omega
 ·match i,j,hs,ht,hij,hj with
  | 0,0,hs,ht,_,_ =>
   have h1 : x = s:=by simpa using hs
   have h2 : x = t:=by simpa using ht
   rw [← h1,← h2]; omega
  | 0,j + 1,hs,ht,_,_ =>
   have h1 : x = s:=by simpa using hs
   have:=c1 j t (by simpa using ht)
   rw [← h1,hw]; omega
  | i + 1,j + 1,hs,ht,hij,hj =>
   have:=c2 i j s t (by simpa using hs) (by simpa using ht) (by omega) (by omega); omega
theorem nst_all : (∀ s : Stmt,Nst (fl1 s)) ∧ ∀ l : List Stmt,Nst (flat l):=by
 refine stmt_ind ?_ nst_nil ?_
 ·intro k w v m e b l a hb hl
  rw [fl1]
  exact nst_cons (by simp [wn]) (nst_app hb hl)
 ·intro s r h1 h2
  rw [flat]; exact nst_app h1 h2
theorem nst_flats : ∀ ts : List (List Stmt),Nst (flats ts)
 | []=>nst_nil
 | t :: r=>by rw [flats]; exact nst_app (nst_all.2 t) (nst_flats r)
theorem hit_one (s : Stmt) (nm : List ByteArray) (h : hit s nm = true) : ∃ w ∈ nm,hit s [w] = true:=by
 unfold hit at h
 rw [List.any_eq_true] at h
 obtain ⟨x,h1,h2⟩:=h
 unfold has at h2
 rw [List.any_eq_true] at h2
 obtain ⟨w,h3,h4⟩:=h2
 exact ⟨w,h3,by unfold hit; rw [List.any_eq_true]; exact ⟨x,h1,by simp [has,h4]⟩⟩
theorem hit_in (s : Stmt) (nm : List ByteArray) (w : ByteArray) (hw : w ∈ nm) (h : hit s [w] = true) : hit s nm = true:=by
 unfold hit at h ⊢
 rw [List.any_eq_true] at h ⊢
 obtain ⟨x,h1,h2⟩:=h
 refine ⟨x,h1,?_⟩
 unfold has at h2 ⊢
 rw [List.any_eq_true]
 exact ⟨w,hw,by simpa using h2⟩
abbrev wrpA (S : List Stmt) (nm : List ByteArray) : List Nat:=wrp S nm S.length 0
theorem wrp_in (S : List Stmt) (hN : Nst S) (nm : List ByteArray) (k : Nat) (hk : k ∈ wrpA S nm) : ∃ w ∈ nm,k ∈ wrpA S [w]:=by
 obtain ⟨_,s,hs,hh⟩:=wrp_lo _ _ _ _ _ hk
 obtain ⟨w,hw,h1⟩:=hit_one s nm hh
 refine ⟨w,hw,?_⟩
 have c1:=(wrp_cnt S [w] S.length 0 k (by omega) (by omega)).2 s hs h1
 obtain ⟨j,hj⟩ : ∃ j,j ∈ (wrpA S [w]).filter (cov S k):=by
  cases e : (wrpA S [w]).filter (cov S k) with
  | nil=>rw [e] at c1; cases c1
  | cons y r=>exact ⟨y,by simp⟩
 obtain ⟨hj1,hj2⟩:=List.mem_filter.1 hj
 obtain ⟨_,t,ht,hht⟩:=wrp_lo _ _ _ _ _ hj1
 unfold cov at hj2
 rw [ht] at hj2
 simp only [Bool.and_eq_true,decide_eq_true_eq] at hj2
 by_cases hjk : j = k
 ·subst hjk; exact hj1
 ·exfalso
  have c2:=(wrp_cnt S nm S.length 0 j (by omega) (by omega)).2 t ht (hit_in t nm w hw hht)
  obtain ⟨i,hi⟩ : ∃ i,i ∈ (wrpA S nm).filter (cov S j):=by
   cases e : (wrpA S nm).filter (cov S j) with
   | nil=>rw [e] at c2; cases c2
   | cons y r=>exact ⟨y,by simp⟩
  obtain ⟨hi1,hi2⟩:=List.mem_filter.1 hi
  obtain ⟨_,u,hu,_⟩:=wrp_lo _ _ _ _ _ hi1
  unfold cov at hi2
  rw [hu] at hi2
  simp only [Bool.and_eq_true,decide_eq_true_eq] at hi2
  have nn:=hN.2 i j u t hu ht hi2.1 hi2.2
  have c3:=(wrp_cnt S nm S.length 0 k (by omega) (by omega)).1
  have m1 : i ∈ (wrpA S nm).filter (cov S k):=List.mem_filter.2 ⟨hi1,by unfold cov; rw [hu]; simp only [Bool.and_eq_true,decide_eq_true_eq]; omega⟩
  have m2 : k ∈ (wrpA S nm).filter (cov S k):=List.mem_filter.2 ⟨hk,by unfold cov; rw [hs]; simp only [Bool.and_eq_true,decide_eq_true_eq]; omega⟩
  revert c3 m1 m2
  show ((wrpA S nm).filter (cov S k)).length ≤ 1 → _
  match (wrpA S nm).filter (cov S k) with
  | []=>intro _ m1; cases m1
  | [x]=>intro _ m1 m2; simp at m1 m2; omega
  | x :: y :: r=>intro c; simp at c
theorem wrp_nodup (S : List Stmt) (nm : List ByteArray) : ∀ m i,(wrp S nm m i).Nodup
 | 0,i=>by simp [wrp]
 | m + 1,i=>by
  rw [wrp]
  cases g : S[i]? with
  | none=>simp
  | some s =>
   cases c : hit s nm
   ·simp only [c,cond_false]; exact wrp_nodup S nm m (i + 1)
   ·simp only [c,cond_true]
    refine List.nodup_cons.2 ⟨fun h=>?_,wrp_nodup S nm m _⟩
    have:=(wrp_lo _ _ _ _ _ h).1; omega
theorem gsum_erase (W : List Int) (k : Nat) : ∀ L : List Nat,k ∈ L → gsum W L = 2 * (W.getD k 0).toNat + gsum W (L.erase k)
 | [],h=>by cases h
 | x :: r,h=>by
  by_cases hx : x = k
  ·subst hx
   rw [List.erase_cons_head,gsum]
  ·have hm : k ∈ r:=by
    rcases List.mem_cons.1 h with h | h
    ·exact absurd h.symm hx
    ·exact h
   rw [List.erase_cons_tail (by simpa using hx),gsum,gsum,gsum_erase W k r hm]; omega
theorem gsum_sub (W : List Int) : ∀ A B : List Nat,A.Nodup → (∀ k ∈ A,k ∈ B) → gsum W A ≤ gsum W B
 | [],B,_,_=>by simp [gsum]
 | a :: A,B,hn,h=>by
  obtain ⟨h1,h2⟩:=List.nodup_cons.1 hn
  have:=gsum_sub W A (B.erase a) h2 fun k hk=>(List.mem_erase_of_ne (fun q : k = a=>h1 (q ▸ hk))).2 (h k (by simp [hk]))
  rw [gsum,gsum_erase W a B (h a (by simp))]; omega
theorem gsum_split (W : List Int) (p : Nat → Bool) : ∀ A : List Nat,gsum W A = gsum W (A.filter p) + gsum W (A.filter fun k=>!p k)
 | []=>by simp [gsum]
 | a :: A=>by
  rw [gsum,gsum_split W p A]
  cases c : p a
  ·rw [List.filter_cons_of_neg (by simp [c]),List.filter_cons_of_pos (by simp [c]),gsum]; omega
  ·rw [List.filter_cons_of_pos (by simp [c]),List.filter_cons_of_neg (by simp [c]),gsum]; omega
def tsum {α : Type} (f : α → Nat) : List α → Nat
 | []=>0
 | x :: r=>f x + tsum f r
theorem gsum_cover {α : Type} (W : List Int) (B : α → List Nat) : ∀ (L : List α) (A : List Nat),A.Nodup → (∀ k ∈ A,∃ v ∈ L,k ∈ B v) → gsum W A ≤ tsum (fun v=>gsum W (B v)) L
 | [],A,hn,h=>by
  cases A with
  | nil=>simp [gsum]
  | cons a A=>obtain ⟨v,hv,_⟩:=h a (by simp); cases hv
 | v :: L,A,hn,h=>by
  rw [gsum_split W (fun k=>decide (k ∈ B v)) A,tsum]
  have h1:=gsum_sub W (A.filter fun k=>decide (k ∈ B v)) (B v) (hn.sublist List.filter_sublist) fun k hk=>of_decide_eq_true (List.mem_filter.1 hk).2
  have h2:=gsum_cover W B L (A.filter fun k=>!decide (k ∈ B v)) (hn.sublist List.filter_sublist) fun k hk=>by
   obtain ⟨k1,k2⟩:=List.mem_filter.1 hk
   obtain ⟨u,hu,hb⟩:=h k k1
   rcases List.mem_cons.1 hu with rfl | hu
   ·simp [hb] at k2
   ·exact ⟨u,hu,hb⟩
  omega
end Go.Su.Ytcadbebhhnggdaa
