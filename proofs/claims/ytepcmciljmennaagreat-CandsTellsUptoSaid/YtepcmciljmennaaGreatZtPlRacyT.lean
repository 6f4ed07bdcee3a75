/-
  The racy variables of some races: the library's order, without what stands twice, is the document's: the least that is not told yet.
-/
import Derived.Test.YtepcmciljmennaaGreatZtPlTok
import Derived.Test.YtepcmciljmennaaGreatZtDxF
import Derived.KernelRfl
namespace Go.Su.YtepcmciljmennaaGreat
open Go.Mx Go.Proofs
set_option linter.unusedVariables false
set_option linter.unusedSimpArgs false
set_option maxHeartbeats 4000000
theorem nx_bd (w k m B c : Int) (h0 : 0 ≤ w) (m0 : 0 ≤ m) (m9 : m ≤ 9) (hc : 1 ≤ c) (h : w * (c * 9) ≤ B) (hB : B ≤ 1000000000) : 0 ≤ nx w k m ∧ nx w k m * c ≤ B ∧ w ≤ B:=by
 have e : w * (c * 9) = 9 * (w * c):=by rw [Int.mul_comm c 9,← Int.mul_assoc,Int.mul_comm w 9,Int.mul_assoc]
 have hwc : w ≤ w * c:=by
  have:=Int.mul_le_mul_of_nonneg_left hc h0
  omega
 have hm1 : 0 ≤ w * m:=Int.mul_nonneg h0 m0
 have hm2 : w * m ≤ w * 9:=Int.mul_le_mul_of_nonneg_left m9 h0
 have hwr : wr (w * m) = w * m:=wr_of (by omega)
 unfold nx
 cases (k == 8)
 ·exact ⟨h0,by show w * c ≤ B; omega,by omega⟩
 ·refine ⟨by show 0 ≤ wr (w * m); omega,?_,by omega⟩
  show wr (w * m) * c ≤ B
  rw [hwr]
  have : w * m * c ≤ w * 9 * c:=Int.mul_le_mul_of_nonneg_right hm2 (by omega)
  have e2 : w * 9 * c = 9 * (w * c):=by rw [Int.mul_comm w 9,Int.mul_assoc]
  omega
theorem pow9 : ∀ d : Nat,(1 : Int) ≤ 9 ^ d
 | 0=>by simp
 | d + 1=>by have:=pow9 d; rw [Int.pow_succ]; omega
theorem wg_bd (B : Int) (hB : B ≤ 1000000000) : (∀ s : Stmt,∀ (d : Nat) (w : Int),0 ≤ s.N → s.N ≤ 9 → wfl d s.Body → wfl d s.Else → 0 ≤ w → w * (9 ^ d * 9) ≤ B → ∀ v ∈ wgS s w,0 ≤ v ∧ v ≤ B) ∧
  ∀ l : List Stmt,∀ (d : Nat) (w : Int),wfl d l → 0 ≤ w → w * 9 ^ d ≤ B → ∀ v ∈ wgL l w,0 ≤ v ∧ v ≤ B:=by
 refine stmt_ind ?_ (fun d w _ _ _ v hv=>by simp [wgL] at hv) ?_
 ·intro k u o m e b l a hb hl d w m0 m9 h1 h2 h3 h4 v hv
  obtain ⟨n1,n2,n3⟩:=nx_bd w k m B (9 ^ d) h3 m0 m9 (pow9 d) h4 hB
  rw [wgS,List.mem_cons,List.mem_append] at hv
  rcases hv with rfl | hv | hv
  ·exact ⟨h3,n3⟩
  ·exact hb d _ h1 n1 n2 v hv
  ·exact hl d _ h2 n1 n2 v hv
 ·intro s r hs hr d w h h3 h4 v hv
  cases d with
  | zero=>exact absurd (show s :: r = [] from h) (by simp)
  | succ d =>
   rw [wgL,List.mem_append] at hv
   rcases hv with hv | hv
   ·obtain ⟨_,q2,q3,q4,q5⟩:=h s (by simp)
    exact hs d w q2 q3 q4 q5 h3 (by rw [← Int.pow_succ]; exact h4) v hv
   ·exact hr (d + 1) w (fun y hy=>h y (by simp [hy])) h3 h4 v hv
theorem wgT_bd : ∀ ts : List (List Stmt),(∀ t ∈ ts,wfl 8 t) → ∀ v ∈ wgT ts,0 ≤ v ∧ v ≤ 43046721
 | [],_,v,hv=>by simp [wgT] at hv
 | t :: r,h,v,hv=>by
  rw [wgT,List.mem_append] at hv
  rcases hv with hv | hv
  ·exact (wg_bd 43046721 (by omega)).2 t 8 1 (h t (by simp)) (by omega) (by decide) v hv
  ·exact wgT_bd r (fun x hx=>h x (by simp [hx])) v hv
theorem one_add : FloatKind.f64.format.add 4607182418800017408 0 = some 4607182418800017408:=by kernel_rfl
theorem near0 : FloatKind.f64.nearest ((0 : Nat) : Int) = 0:=by kernel_rfl
theorem cadd_nat (a b : Nat) (h : a + b < 2 ^ 53) : cadd ⟨FloatKind.f64.nearest (a : Int),4607182418800017408⟩ ⟨FloatKind.f64.nearest (b : Int),0⟩ = some ⟨FloatKind.f64.nearest ((a + b : Nat) : Int),4607182418800017408⟩:=by
 unfold cadd
 simp only [add_nat a b h,one_add,Option.bind_some]
theorem Upgrade_L0 (p : Prog) (nm : ByteArray) (W : List Int) (S : List Stmt) (hl : W.length = S.length) (hS : S.length ≤ 100000) (hz : ∀ x ∈ S,szE x.E ≤ 1000000) (hW : ∀ v ∈ W,0 ≤ v ∧ v ≤ 43046721) :
  ∀ (m i s : Nat),S.length - i ≤ m → i ≤ S.length → s ≤ 43046721 * i →
   ∃ r : Nat,Ev (fun n=>cost_Upgrade_L0 n p nm W S ⟨FloatKind.f64.nearest (s : Int),4607182418800017408⟩ (i : Int)) ⟨FloatKind.f64.nearest (r : Int),4607182418800017408⟩ ∧ Ev (fun n=>ref22_Upgrade_L0 n p nm S W (s : Int) (i : Int)) (r : Int) ∧ r ≤ 4304672100000
 | m,i,s,h1,h2,h3=>by
  by_cases hi : i < S.length
  ·match m,h1 with
   | 0,h1=>exact absurd h1 (by omega)
   | m + 1,h1 =>
    have d1 : decide ((i : Int) < ln S) = true:=decide_eq_true (by show (i : Int) < (S.length : Int); omega)
    have i1 : idx S (i : Int) = some S[i]:=idx_of (by omega) (by rw [Int.toNat_natCast]; exact List.getElem?_eq_getElem hi)
    have i2 : idx W (i : Int) = some (W[i]'(by omega)):=idx_of (by omega) (by rw [Int.toNat_natCast]; exact List.getElem?_eq_getElem (by omega))
    have e3 : wr ((i : Int) + 1) = ((i + 1 : Nat) : Int):=by rw [wr_of (by omega)]; rfl
    have t1:=touches_ev S[i] [nm] (hz _ (List.getElem_mem hi)) (by simp)
    have t2:=meets_ev S[i] [nm] (hz _ (List.getElem_mem hi)) (by simp)
    have hw:=hW _ (List.getElem_mem (show i < W.length by omega))
    obtain ⟨v,hv⟩ : ∃ v : Nat,(W[i]'(by omega)) = (v : Int):=⟨(W[i]'(by omega)).toNat,by omega⟩
    rw [hv] at i2 hw
    have hc:=cadd_nat s v (by omega)
    have e4 : wr ((s : Int) + (v : Int)) = ((s + v : Nat) : Int):=by rw [wr_of (by omega)]; rfl
    have b1 : ∀ n,cost_Upgrade_L0 (n + 1) p nm W S ⟨FloatKind.f64.nearest (s : Int),4607182418800017408⟩ (i : Int) = (cost_touches n S[i] [nm]).bind fun r8=>bif r8 then cost_Upgrade_L0 n p nm W S ⟨FloatKind.f64.nearest ((s + v : Nat) : Int),4607182418800017408⟩ ((i + 1 : Nat) : Int) else cost_Upgrade_L0 n p nm W S ⟨FloatKind.f64.nearest (s : Int),4607182418800017408⟩ ((i + 1 : Nat) : Int):=by
     intro n
     simp only [cost_Upgrade_L0,d1,cond_true,i1,i2,Option.bind_some,jn,e3,cost_whole,hc]
    have b2 : ∀ n,ref22_Upgrade_L0 (n + 1) p nm S W (s : Int) (i : Int) = (ref22_meets n S[i] [nm]).bind fun r8=>bif r8 then ref22_Upgrade_L0 n p nm S W ((s + v : Nat) : Int) ((i + 1 : Nat) : Int) else ref22_Upgrade_L0 n p nm S W (s : Int) ((i + 1 : Nat) : Int):=by
     intro n
     simp only [ref22_Upgrade_L0,d1,cond_true,i1,i2,Option.bind_some,jn,e3,e4]
    cases c : hit S[i] [nm]
    ·obtain ⟨r,k1,k2,k3⟩:=Upgrade_L0 p nm W S hl hS hz hW m (i + 1) s (by omega) (by omega) (by omega)
     exact ⟨r,Ev.step (Ev.of_eq b1 (Ev.bind t1 (Ev.no c k1))),Ev.step (Ev.of_eq b2 (Ev.bind t2 (Ev.no c k2))),k3⟩
    ·obtain ⟨r,k1,k2,k3⟩:=Upgrade_L0 p nm W S hl hS hz hW m (i + 1) (s + v) (by omega) (by omega) (by omega)
     exact ⟨r,Ev.step (Ev.of_eq b1 (Ev.bind t1 (Ev.yes c k1))),Ev.step (Ev.of_eq b2 (Ev.bind t2 (Ev.yes c k2))),k3⟩
  ·have d1 : decide ((i : Int) < ln S) = false:=decide_eq_false (by show ¬ (i : Int) < (S.length : Int); omega)
   exact ⟨s,Ev.step (Ev.of_eq (g:=fun n=>some _) (fun n=>by simp only [cost_Upgrade_L0,d1,cond_false]) (Ev.ret _)),Ev.step (Ev.of_eq (g:=fun n=>some _) (fun n=>by simp only [ref22_Upgrade_L0,d1,cond_false]) (Ev.ret _)),by omega⟩
theorem Upgrade_ev (D : List Decl) (ts : List (List Stmt)) (nm : ByteArray) (hz : szT ts ≤ 40000) (hw : ∀ t ∈ ts,wfl 8 t) : ∃ r : Nat,Ev (fun n=>cost_Upgrade n ⟨D,ts⟩ nm) ⟨FloatKind.f64.nearest (r : Int),4607182418800017408⟩ ∧ Ev (fun n=>ref22_Upgrade n ⟨D,ts⟩ nm) (r : Int) ∧ r ≤ 4304672100000:=by
 have l1:=len_T ts
 obtain ⟨r,k1,k2,k3⟩:=Upgrade_L0 ⟨D,ts⟩ nm (wgT ts) (flats ts) (wgT_len ts) (by omega) (fun x hx=>by
  have h1:=sz_flats ts x hx
  have : ∀ s : Stmt,szE s.E ≤ szS s:=by intro s; cases s; simp only [szS]; omega
  have:=this x; omega) (wgT_bd ts hw) (flats ts).length 0 0 (by omega) (by omega) (by omega)
 rw [near0] at k1
 exact ⟨r,Ev.of_eq (g:=fun n=>(cost_Weights n ⟨D,ts⟩).bind fun r1=>(tree_List n ⟨D,ts⟩).bind fun r2=>cost_Upgrade_L0 n ⟨D,ts⟩ nm r1 r2 ⟨0,4607182418800017408⟩ 0) (fun n=>by simp only [cost_Upgrade]) (Ev.bind (Weights_ev D ts (by omega)) (Ev.bind (List_ev D ts (by omega)) k1)),
  Ev.of_eq (g:=fun n=>(ref1_List n ⟨D,ts⟩).bind fun r1=>(ref22_Weights n ⟨D,ts⟩).bind fun r2=>ref22_Upgrade_L0 n ⟨D,ts⟩ nm r1 r2 0 0) (fun n=>by simp only [ref22_Upgrade]) (Ev.bind (rList_ev D ts (by omega)) (Ev.bind (rWeights_ev D ts (by omega)) k2)),k3⟩
end Go.Su.YtepcmciljmennaaGreat
namespace Go.Su.YtepcmciljmennaaGreat
open Go.Mx Go.Proofs
set_option linter.unusedVariables false
set_option linter.unusedSimpArgs false
set_option maxHeartbeats 4000000
theorem near2 : FloatKind.f64.nearest ((2 : Nat) : Int) = 4611686018427387904:=by kernel_rfl
theorem mul00 : FloatKind.f64.format.mul 0 0 = some 0:=by kernel_rfl
theorem mul20 : FloatKind.f64.format.mul 4611686018427387904 0 = some 0:=by kernel_rfl
theorem add00 : FloatKind.f64.format.add 0 0 = some 0:=by kernel_rfl
theorem cmul_nat (v : Nat) (h : 2 * v < 2 ^ 53) : cmul ⟨4611686018427387904,0⟩ ⟨FloatKind.f64.nearest (v : Int),0⟩ = some ⟨FloatKind.f64.nearest ((2 * v : Nat) : Int),0⟩:=by
 have e1 : FloatKind.f64.format.mul 4611686018427387904 (FloatKind.f64.nearest (v : Int)) = some (FloatKind.f64.nearest ((2 * v : Nat) : Int)):=by
  rw [← near2]; exact mul_nat 2 v (by omega) (by omega) h
 have e2 : FloatKind.f64.format.mul 0 (FloatKind.f64.nearest (v : Int)) = some 0:=by
  have:=mul_nat 0 v (by omega) (by omega) (by omega)
  rw [Nat.zero_mul,near0] at this; exact this
 have e3:=sub_zero_nat (2 * v) h
 unfold cmul
 simp only [e1,mul00,e3,mul20,e2,add00,Option.bind_some]
theorem Guard_L0 (p : Prog) (nm : List ByteArray) (W L : List Int) (hL : L.length ≤ 1000000) (hk : ∀ v ∈ L,∃ k : Nat,k < W.length ∧ v = k) (hW : ∀ v ∈ W,0 ≤ v ∧ v ≤ 43046721) :
  ∀ (m i s : Nat),L.length - i ≤ m → i ≤ L.length → s ≤ 86093442 * i →
   ∃ r : Nat,Ev (fun n=>cost_Guard_L0 n p nm W L ⟨FloatKind.f64.nearest (s : Int),4607182418800017408⟩ (i : Int)) ⟨FloatKind.f64.nearest (r : Int),4607182418800017408⟩ ∧ Ev (fun n=>ref22_Guard_L0 n p nm W L (s : Int) (i : Int)) (r : Int) ∧ r ≤ 86093442000000
 | m,i,s,h1,h2,h3=>by
  by_cases hi : i < L.length
  ·match m,h1 with
   | 0,h1=>exact absurd h1 (by omega)
   | m + 1,h1 =>
    have d1 : decide ((i : Int) < ln L) = true:=decide_eq_true (by show (i : Int) < (L.length : Int); omega)
    obtain ⟨k,hkl,hkv⟩:=hk _ (List.getElem_mem hi)
    have i1 : idx L (i : Int) = some (k : Int):=by rw [← hkv]; exact idx_of (by omega) (by rw [Int.toNat_natCast]; exact List.getElem?_eq_getElem hi)
    have i2 : idx W (k : Int) = some (W[k]'hkl):=idx_of (by omega) (by rw [Int.toNat_natCast]; exact List.getElem?_eq_getElem hkl)
    have e3 : wr ((i : Int) + 1) = ((i + 1 : Nat) : Int):=by rw [wr_of (by omega)]; rfl
    have hw:=hW _ (List.getElem_mem hkl)
    obtain ⟨v,hv⟩ : ∃ v : Nat,W[k]'hkl = (v : Int):=⟨(W[k]'hkl).toNat,by omega⟩
    rw [hv] at i2 hw
    have hm:=cmul_nat v (by omega)
    have hc:=cadd_nat s (2 * v) (by omega)
    have e4 : wr ((s : Int) + wr (2 * (v : Int))) = ((s + 2 * v : Nat) : Int):=by rw [wr_of (x:=2 * (v : Int)) (by omega),wr_of (by omega)]; omega
    obtain ⟨r,k1,k2,k3⟩:=Guard_L0 p nm W L hL hk hW m (i + 1) (s + 2 * v) (by omega) (by omega) (by omega)
    refine ⟨r,Ev.step (Ev.of_eq (fun n=>?_) k1),Ev.step (Ev.of_eq (fun n=>?_) k2),k3⟩
    ·simp only [cost_Guard_L0,d1,cond_true,i1,i2,Option.bind_some,cost_whole,hm,hc,e3]
    ·simp only [ref22_Guard_L0,d1,cond_true,i1,i2,Option.bind_some,e3,e4]
  ·have d1 : decide ((i : Int) < ln L) = false:=decide_eq_false (by show ¬ (i : Int) < (L.length : Int); omega)
   exact ⟨s,Ev.step (Ev.of_eq (g:=fun n=>some _) (fun n=>by simp only [cost_Guard_L0,d1,cond_false]) (Ev.ret _)),Ev.step (Ev.of_eq (g:=fun n=>some _) (fun n=>by simp only [ref22_Guard_L0,d1,cond_false]) (Ev.ret _)),by omega⟩
theorem Guard_ev (D : List Decl) (ts : List (List Stmt)) (nm : List ByteArray) (hn : nm.length ≤ 4000000) (hz : szT ts ≤ 40000) (hw : ∀ t ∈ ts,wfl 8 t) : ∃ r : Nat,Ev (fun n=>cost_Guard n ⟨D,ts⟩ nm) ⟨FloatKind.f64.nearest (r : Int),4607182418800017408⟩ ∧ Ev (fun n=>ref22_Guard n ⟨D,ts⟩ nm) (r : Int) ∧ r ≤ 86093442000000:=by
 obtain ⟨L,w1,w2,w3,w4⟩:=Wrapped_ev D ts nm hn (by omega)
 obtain ⟨r,k1,k2,k3⟩:=Guard_L0 ⟨D,ts⟩ nm (wgT ts) L w3 (fun v hv=>by rw [wgT_len]; exact w4 v hv) (wgT_bd ts hw) L.length 0 0 (by omega) (by omega) (by omega)
 rw [near0] at k1
 exact ⟨r,Ev.of_eq (g:=fun n=>(cost_Weights n ⟨D,ts⟩).bind fun r1=>(cost_Wrapped n ⟨D,ts⟩ nm).bind fun r2=>cost_Guard_L0 n ⟨D,ts⟩ nm r1 r2 ⟨0,4607182418800017408⟩ 0) (fun n=>by simp only [cost_Guard]) (Ev.bind (Weights_ev D ts (by omega)) (Ev.bind w1 k1)),
  Ev.of_eq (g:=fun n=>(ref22_Weights n ⟨D,ts⟩).bind fun r1=>(ref22_Wrapped n ⟨D,ts⟩ nm).bind fun r2=>ref22_Guard_L0 n ⟨D,ts⟩ nm r1 r2 0 0) (fun n=>by simp only [ref22_Guard]) (Ev.bind (rWeights_ev D ts (by omega)) (Ev.bind w2 k2)),k3⟩
end Go.Su.YtepcmciljmennaaGreat
namespace Go.Su.YtepcmciljmennaaGreat
open Go.Mx Go.Proofs
set_option linter.unusedVariables false
set_option linter.unusedSimpArgs false
set_option maxHeartbeats 4000000
theorem roomCa (a b : Nat) (h : a + b ≤ 1000) : room s_Cand.i1.bytes a b = true:=room_of (by
 have : s_Cand.i1.bytes ≤ 1000:=by decide
 have:=Nat.mul_le_mul h this
 omega)
theorem shl24 : ((List.range 24).all fun k=>(match ishl .i64 1 (IntKind.u64.wrap (k : Nat)) with | some p=>p == (2 ^ k : Nat) | none=>false)) = true:=by kernel_rfl
theorem shl_of (k : Nat) (h : k < 24) : ishl .i64 1 (IntKind.u64.wrap (k : Int)) = some ((2 ^ k : Nat) : Int):=by
 have:=(List.all_eq_true.1 shl24) k (List.mem_range.2 h)
 cases e : ishl .i64 1 (IntKind.u64.wrap (k : Nat)) with
 | none=>rw [e] at this; cases this
 | some p=>rw [e] at this; rw [eq_of_beq this]
def bitK (a : Int) (k : Nat) : Bool:=((wr (a.tdiv ((2 ^ k : Nat) : Int))).tmod 2) != 0
theorem bit8 (a : Int) (h0 : 0 ≤ a) (h1 : a < 256) (k : Nat) (h : 8 ≤ k) : bitK a k = false:=by
 have h2 : 2 ^ 8 ≤ 2 ^ k:=Nat.pow_le_pow_right (by omega) h
 have h3 : a.tdiv ((2 ^ k : Nat) : Int) = 0:=by
  rw [Int.tdiv_eq_ediv_of_nonneg h0]
  exact Int.ediv_eq_zero_of_lt h0 (by omega)
 unfold bitK
 rw [h3]; rfl
def rcy (a : Int) : List Decl → Nat → List Int
 | [],_=>[]
 | d :: r,k=>(bif decide (d.Kind ≤ 2) && bitK a k then [(k : Int)] else []) ++ rcy a r (k + 1)
theorem racy_L0 (D : List Decl) (ts : List (List Stmt)) (a : Int) (hD : D.length ≤ 24) : ∀ (l pre : List Decl) (acc : List Int),D = pre ++ l → acc.length ≤ pre.length → Ev (fun n=>law23_racy_L0 n ⟨D,ts⟩ a acc pre.length) (acc ++ rcy a l pre.length)
 | [],pre,acc,e,h=>by
  rw [List.append_nil] at e
  exact Ev.step (Ev.of_eq (g:=fun n=>some acc) (fun n=>by simp only [law23_racy_L0,e,ix_ge,cond_false]) (by simpa [rcy] using Ev.ret acc))
 | d :: r,pre,acc,e,h=>by
  have hp : pre.length < 24:=by rw [e] at hD; simp at hD; omega
  have sh:=shl_of pre.length hp
  have p0 : ((((2 ^ pre.length : Nat) : Int)) == 0) = false:=by
   have:=Nat.pow_pos (n:=pre.length) (show 0 < 2 by omega)
   exact beq_eq_false_iff_ne.2 (fun q=>by have:=Int.ofNat_eq_zero.1 q; omega)
  have rm : room s_int.i1.bytes acc.length [(pre.length : Int)].length = true:=roomC _ _ (by simp; omega)
  have hb : (((wr (a.tdiv ((2 ^ pre.length : Nat) : Int))).tmod 2) != 0) = bitK a pre.length:=rfl
  have nx : ∀ acc' : List Int,acc'.length ≤ pre.length + 1 → Ev (fun n=>law23_racy_L0 n ⟨D,ts⟩ a acc' ((pre ++ [d]).length)) (acc' ++ rcy a r (pre.length + 1)):=fun acc' h'=>by
   have:=racy_L0 D ts a hD r (pre ++ [d]) acc' (by rw [e]; exact ix_cons _ _ _) (by simp; omega)
   simpa using this
  rw [rcy]
  have w:=ix_wr pre d (by omega)
  have d1 : decide ((pre.length : Int) < ln D) = true:=by rw [e]; exact ix_lt _ _ _
  have g1 : idx D (pre.length : Int) = some d:=by rw [e]; exact ix_get _ _ _
  cases c1 : decide (d.Kind ≤ 2)
  ·refine Ev.step (Ev.of_eq (fun n=>?_) (by simpa only [Bool.false_and,Bool.and_false,cond_false,List.nil_append] using nx acc (by omega)))
   simp only [law23_racy_L0,d1,g1,jn,cond_true,cond_false,Option.bind_some,c1,w]
  ·cases c2 : bitK a pre.length
   ·refine Ev.step (Ev.of_eq (fun n=>?_) (by simpa only [Bool.false_and,Bool.and_false,cond_false,List.nil_append] using nx acc (by omega)))
    simp only [law23_racy_L0,d1,g1,jn,cond_true,cond_false,Option.bind_some,c1,w,sh,p0,hb,c2]
   ·refine Ev.step (Ev.of_eq (fun n=>?_) (by simpa only [Bool.true_and,cond_true,List.append_assoc] using nx (acc ++ [(pre.length : Int)]) (by simp; omega)))
    simp only [law23_racy_L0,d1,g1,jn,cond_true,cond_false,Option.bind_some,c1,w,sh,p0,hb,c2,rm]
theorem racy_ev (D : List Decl) (ts : List (List Stmt)) (a : Int) (hD : D.length ≤ 24) : Ev (fun n=>law23_racy n ⟨D,ts⟩ a) (rcy a D 0) :=
 Ev.of_eq (fun n=>by simp only [law23_racy]; rfl) (by simpa using racy_L0 D ts a hD D [] [] rfl (by simp))
theorem rcy_len (a : Int) (h0 : 0 ≤ a) (h1 : a < 256) : ∀ (l : List Decl) (k : Nat),(rcy a l k).length ≤ 8 - k
 | [],k=>by simp [rcy]
 | d :: r,k=>by
  have:=rcy_len a h0 h1 r (k + 1)
  rw [rcy]
  by_cases hk : 8 ≤ k
  ·rw [bit8 a h0 h1 k hk,Bool.and_false,cond_false,List.nil_append]; omega
  ·cases (decide (d.Kind ≤ 2) && bitK a k)
   ·simp only [cond_false,List.nil_append]; omega
   ·simp only [cond_true,List.length_append,List.length_singleton]; omega
theorem rcy_mem (a : Int) : ∀ (l : List Decl) (k : Nat) (v : Int),v ∈ rcy a l k → ∃ (j : Nat) (d : Decl),v = ((k + j : Nat) : Int) ∧ l[j]? = some d ∧ d.Kind ≤ 2
 | [],k,v,h=>by simp [rcy] at h
 | d :: r,k,v,h=>by
  rw [rcy,List.mem_append] at h
  rcases h with h | h
  ·cases c : (decide (d.Kind ≤ 2) && bitK a k)
   ·rw [c] at h; simp at h
   ·rw [c] at h
    have hv : v = (k : Int):=by simpa using h
    rw [Bool.and_eq_true] at c
    exact ⟨0,d,by rw [hv]; rfl,rfl,of_decide_eq_true c.1⟩
  ·obtain ⟨j,d',h1,h2,h3⟩:=rcy_mem a r (k + 1) v h
   exact ⟨j + 1,d',by rw [h1,show k + 1 + j = k + (j + 1) by omega],by simpa using h2,h3⟩
def bq (i : Int) (k : Nat) : Bool:=((wr (i.tdiv ((2 ^ k : Nat) : Int))).tmod 2) == 1
def pk (i : Int) : List Int → Nat → List Int
 | [],_=>[]
 | x :: t,k=>(bif bq i k then [x] else []) ++ pk i t (k + 1)
theorem pk_mem (i : Int) : ∀ (l : List Int) (k : Nat),∀ v ∈ pk i l k,v ∈ l
 | [],_,v,h=>by simp [pk] at h
 | x :: t,k,v,h=>by
  rw [pk,List.mem_append] at h
  rcases h with h | h
  ·cases c : bq i k
   ·rw [c] at h; simp at h
   ·rw [c] at h
    have : v = x:=by simpa using h
    simp [this]
  ·exact List.mem_cons_of_mem _ (pk_mem i t (k + 1) v h)
theorem pk_len (i : Int) : ∀ (l : List Int) (k : Nat),(pk i l k).length ≤ l.length
 | [],_=>by simp [pk]
 | x :: t,k=>by
  have:=pk_len i t (k + 1)
  rw [pk]
  cases bq i k <;> simp <;> omega
def sts (r : List Int) : List (List Int):=bif decide (r.length > 4) then r.map (fun v=>[v]) ++ [r] else (List.range' 1 (2 ^ r.length - 1)).map fun (i : Nat)=>pk (i : Int) r 0
set_option maxRecDepth 100000 in
theorem sets_ev (r : List Int) (h : r.length ≤ 8) : Ev (fun n=>cands_sets n r) (sts r):=by
 match r,h with
 | [],_ =>
  refine ⟨200,fun n hn=>?_⟩
  obtain ⟨k,rfl⟩ : ∃ k,n = k + 200:=⟨n - 200,by omega⟩
  kernel_rfl
 | [a],_ =>
  refine ⟨200,fun n hn=>?_⟩
  obtain ⟨k,rfl⟩ : ∃ k,n = k + 200:=⟨n - 200,by omega⟩
  kernel_rfl
 | [a,b],_ =>
  refine ⟨200,fun n hn=>?_⟩
  obtain ⟨k,rfl⟩ : ∃ k,n = k + 200:=⟨n - 200,by omega⟩
  kernel_rfl
 | [a,b,c],_ =>
  refine ⟨200,fun n hn=>?_⟩
  obtain ⟨k,rfl⟩ : ∃ k,n = k + 200:=⟨n - 200,by omega⟩
  kernel_rfl
 | [a,b,c,d],_ =>
  refine ⟨200,fun n hn=>?_⟩
  obtain ⟨k,rfl⟩ : ∃ k,n = k + 200:=⟨n - 200,by omega⟩
  kernel_rfl
 | [a,b,c,d,e],_ =>
  refine ⟨200,fun n hn=>?_⟩
  obtain ⟨k,rfl⟩ : ∃ k,n = k + 200:=⟨n - 200,by omega⟩
  kernel_rfl
 | [a,b,c,d,e,f],_ =>
  refine ⟨200,fun n hn=>?_⟩
  obtain ⟨k,rfl⟩ : ∃ k,n = k + 200:=⟨n - 200,by omega⟩
  kernel_rfl
 | [a,b,c,d,e,f,g],_ =>
  refine ⟨200,fun n hn=>?_⟩
  obtain ⟨k,rfl⟩ : ∃ k,n = k + 200:=⟨n - 200,by omega⟩
  kernel_rfl
 | [a,b,c,d,e,f,g,h],_ =>
  refine ⟨200,fun n hn=>?_⟩
  obtain ⟨k,rfl⟩ : ∃ k,n = k + 200:=⟨n - 200,by omega⟩
  kernel_rfl
 | a :: b :: c :: d :: e :: f :: g :: h :: i :: r,hr=>exact absurd hr (by simp)
theorem two_le (k : Nat) (h : k ≤ 4) : 2 ^ k ≤ 16:=by
 have : 2 ^ k ≤ 2 ^ 4:=Nat.pow_le_pow_right (by omega) h
 omega
theorem sts_ok (r : List Int) (h : r.length ≤ 8) : (sts r).length ≤ 100 ∧ ∀ s ∈ sts r,s.length ≤ 8 ∧ ∀ v ∈ s,v ∈ r:=by
 unfold sts
 by_cases c : r.length > 4
 ·rw [decide_eq_true c,cond_true]
  refine ⟨by simp; omega,fun s hs=>?_⟩
  rw [List.mem_append] at hs
  rcases hs with hs | hs
  ·obtain ⟨v,hv,rfl⟩:=List.mem_map.1 hs
   exact ⟨by simp,fun w hw=>by
    have : w = v:=by simpa using hw
    rw [this]; exact hv⟩
  ·have : s = r:=by simpa using hs
   rw [this]
   exact ⟨h,fun _ hv=>hv⟩
 ·rw [decide_eq_false c,cond_false]
  have:=two_le r.length (by omega)
  refine ⟨by simp; omega,fun s hs=>?_⟩
  obtain ⟨i,_,rfl⟩:=List.mem_map.1 hs
  exact ⟨Nat.le_trans (pk_len _ _ _) h,pk_mem _ _ _⟩
def nm1 (D : List Decl) (v : Int) : ByteArray:=match D[v.toNat]? with
 | some d=>d.Name
 | none=>ByteArray.empty
def pln (D : List Decl) (v : Int) : Bool:=match D[v.toNat]? with
 | some d=>d.Kind == 1
 | none=>false
def InD (D : List Decl) (r : List Int) : Prop:=∀ v ∈ r,∃ k : Nat,v = (k : Int) ∧ k < D.length
theorem inD_get {D : List Decl} {v : Int} (h : ∃ k : Nat,v = (k : Int) ∧ k < D.length) : ∃ d,idx D v = some d ∧ nm1 D v = d.Name ∧ pln D v = (d.Kind == 1):=by
 obtain ⟨k,rfl,hk⟩:=h
 have g : D[k]? = some D[k]:=List.getElem?_eq_getElem hk
 exact ⟨D[k],idx_of (by omega) (by rw [Int.toNat_natCast]; exact g),by simp [nm1,g],by simp [pln,g]⟩
theorem named_L0 (D : List Decl) (ts : List (List Stmt)) (s : List Int) (hs : s.length ≤ 100) (hi : InD D s) : ∀ (l pre : List Int),s = pre ++ l → Ev (fun n=>cands_named_L0 n ⟨D,ts⟩ s (pre.map (nm1 D)) pre.length) (s.map (nm1 D))
 | [],pre,e=>by
  rw [List.append_nil] at e
  subst e
  exact Ev.step (Ev.of_eq (g:=fun n=>some (s.map (nm1 D))) (fun n=>by simp only [cands_named_L0,ix_ge,cond_false]) (Ev.ret _))
 | x :: r,pre,e=>by
  have hp : pre.length + 1 ≤ 100:=by rw [e] at hs; simp at hs; omega
  obtain ⟨d,g,hn,_⟩:=inD_get (hi x (by rw [e]; simp))
  have rm : room s_string.i1.bytes (pre.map (nm1 D)).length [d.Name].length = true:=roomW _ _ (by simp; omega)
  have nx:=named_L0 D ts s hs hi r (pre ++ [x]) (by rw [e]; exact ix_cons _ _ _)
  rw [List.map_append,List.map_singleton,hn] at nx
  have d1 : decide ((pre.length : Int) < ln s) = true:=by rw [e]; exact ix_lt _ _ _
  have g1 : idx s (pre.length : Int) = some x:=by rw [e]; exact ix_get _ _ _
  refine Ev.step (Ev.of_eq (fun n=>?_) nx)
  simp only [cands_named_L0,d1,g1,g,rm,cond_true,Option.bind_some]
  rw [ix_wr pre x (by omega)]
theorem named_ev (D : List Decl) (ts : List (List Stmt)) (s : List Int) (hs : s.length ≤ 100) (hi : InD D s) : Ev (fun n=>cands_named n ⟨D,ts⟩ s) (s.map (nm1 D)) :=
 Ev.of_eq (fun n=>by simp only [cands_named]; rfl) (named_L0 D ts s hs hi s [] rfl)
theorem wide_L0 (D : List Decl) (ts : List (List Stmt)) (r : List Int) (h8 : r.length ≤ 100) (hi : InD D r) : ∀ (l pre : List Int),r = pre ++ l → ∃ v,Ev (fun n=>IndexFunc_int_fcands_Of_2_L0 n r ⟨D,ts⟩ pre.length) v
 | [],pre,e=>by
  rw [List.append_nil] at e
  subst e
  exact ⟨-1,Ev.step (Ev.of_eq (g:=fun n=>some (-1)) (fun n=>by simp only [IndexFunc_int_fcands_Of_2_L0,ix_ge,cond_false]) (Ev.ret _))⟩
 | x :: t,pre,e=>by
  have hp : pre.length + 1 ≤ 100:=by rw [e] at h8; simp at h8; omega
  obtain ⟨d,g,_,_⟩:=inD_get (hi x (by rw [e]; simp))
  have d1 : decide ((pre.length : Int) < ln r) = true:=by rw [e]; exact ix_lt _ _ _
  have g1 : idx r (pre.length : Int) = some x:=by rw [e]; exact ix_get _ _ _
  obtain ⟨v,nx⟩:=wide_L0 D ts r h8 hi t (pre ++ [x]) (by rw [e]; exact ix_cons _ _ _)
  cases c : (d.Kind == 1)
  ·refine ⟨pre.length,Ev.step (Ev.of_eq (g:=fun n=>some (pre.length : Int)) (fun n=>?_) (Ev.ret _))⟩
   simp only [IndexFunc_int_fcands_Of_2_L0,d1,g1,cands_Of_2,cands_Of_1,g,c,cond_true,Option.bind_some,Bool.not_false]
  ·refine ⟨v,Ev.step (Ev.of_eq (fun n=>?_) nx)⟩
   simp only [IndexFunc_int_fcands_Of_2_L0,d1,g1,cands_Of_2,cands_Of_1,g,c,cond_true,cond_false,Option.bind_some,Bool.not_true]
   rw [ix_wr pre x (by omega)]
theorem wide_ev (D : List Decl) (ts : List (List Stmt)) (r : List Int) (h8 : r.length ≤ 100) (hi : InD D r) : ∃ b,Ev (fun n=>ContainsFunc_int_fcands_Of_2 n r ⟨D,ts⟩) b:=by
 obtain ⟨v,hv⟩:=wide_L0 D ts r h8 hi r [] rfl
 exact ⟨_,Ev.of_eq (g:=fun n=>(IndexFunc_int_fcands_Of_2_L0 n r ⟨D,ts⟩ 0).bind fun r1=>some (decide (r1 ≥ 0))) (fun n=>by simp only [ContainsFunc_int_fcands_Of_2,IndexFunc_int_fcands_Of_2]) (Ev.bind hv (Ev.ret _))⟩
theorem rnamed_L0 (D : List Decl) (ts : List (List Stmt)) (s : List Int) (hs : s.length ≤ 100) (hi : InD D s) : ∀ (l pre : List Int),s = pre ++ l → Ev (fun n=>ref22_namesOf_L0 n ⟨D,ts⟩ s (pre.map (nm1 D)) pre.length) (s.map (nm1 D))
 | [],pre,e=>by
  rw [List.append_nil] at e
  subst e
  exact Ev.step (Ev.of_eq (g:=fun n=>some (s.map (nm1 D))) (fun n=>by simp only [ref22_namesOf_L0,ix_ge,cond_false]) (Ev.ret _))
 | x :: r,pre,e=>by
  have hp : pre.length + 1 ≤ 100:=by rw [e] at hs; simp at hs; omega
  obtain ⟨d,g,hn,_⟩:=inD_get (hi x (by rw [e]; simp))
  have rm : room s_string.i1.bytes (pre.map (nm1 D)).length [d.Name].length = true:=roomW _ _ (by simp; omega)
  have nx:=rnamed_L0 D ts s hs hi r (pre ++ [x]) (by rw [e]; exact ix_cons _ _ _)
  rw [List.map_append,List.map_singleton,hn] at nx
  have d1 : decide ((pre.length : Int) < ln s) = true:=by rw [e]; exact ix_lt _ _ _
  have g1 : idx s (pre.length : Int) = some x:=by rw [e]; exact ix_get _ _ _
  refine Ev.step (Ev.of_eq (fun n=>?_) nx)
  simp only [ref22_namesOf_L0,d1,g1,g,rm,cond_true,Option.bind_some]
  rw [ix_wr pre x (by omega)]
theorem rnamed_ev (D : List Decl) (ts : List (List Stmt)) (s : List Int) (hs : s.length ≤ 100) (hi : InD D s) : Ev (fun n=>ref22_namesOf n ⟨D,ts⟩ s) (s.map (nm1 D)) :=
 Ev.of_eq (fun n=>by simp only [ref22_namesOf]; rfl) (rnamed_L0 D ts s hs hi s [] rfl)
theorem pickF {α β : Type} (P : α → Prop) (R : α → β → Prop) (b0 : β) (h : ∀ a,P a → ∃ b,R a b) : ∃ f : α → β,∀ a,P a → R a (f a):=by
 classical
 refine ⟨fun a=>if ha : P a then Classical.choose (h a ha) else b0,fun a ha=>?_⟩
 show R a (if ha : P a then Classical.choose (h a ha) else b0)
 rw [dif_pos ha]
 exact Classical.choose_spec (h a ha)
theorem nr1 : FloatKind.f64.nearest 1 = 4607182418800017408:=by kernel_rfl
structure Costs (D : List Decl) (ts : List (List Stmt)) (kg : List Int → Cx) (ku : Int → Cx) : Prop where
 gcode : ∀ s,(InD D s ∧ s.length ≤ 8) → Ev (fun n=>cost_Guard n ⟨D,ts⟩ (s.map (nm1 D))) (kg s)
 gref : ∀ s,(InD D s ∧ s.length ≤ 8) → Ev (fun n=>(ref22_Guard n ⟨D,ts⟩ (s.map (nm1 D))).bind fun r2=>ref22_Cost n r2 1) (kg s)
 ucode : ∀ v,(∃ k : Nat,v = (k : Int) ∧ k < D.length) → Ev (fun n=>cost_Upgrade n ⟨D,ts⟩ (nm1 D v)) (ku v)
 uref : ∀ v,(∃ k : Nat,v = (k : Int) ∧ k < D.length) → Ev (fun n=>(ref22_Upgrade n ⟨D,ts⟩ (nm1 D v)).bind fun r2=>ref22_Cost n r2 1) (ku v)
 gnum : ∀ s,(InD D s ∧ s.length ≤ 8) → ∃ g : Nat,g ≤ 86093442000000 ∧ kg s = ⟨FloatKind.f64.nearest (g : Int),4607182418800017408⟩
 unum : ∀ v,(∃ k : Nat,v = (k : Int) ∧ k < D.length) → ∃ g : Nat,g ≤ 86093442000000 ∧ ku v = ⟨FloatKind.f64.nearest (g : Int),4607182418800017408⟩
theorem costs_ev (D : List Decl) (ts : List (List Stmt)) (hz : szT ts ≤ 40000) (hw : ∀ t ∈ ts,wfl 8 t) : ∃ kg ku,Costs D ts kg ku:=by
 obtain ⟨kg,hg⟩:=pickF (fun s : List Int=>InD D s ∧ s.length ≤ 8) (fun s (k : Cx)=>∃ g : Nat,g ≤ 86093442000000 ∧ k = ⟨FloatKind.f64.nearest (g : Int),4607182418800017408⟩ ∧ Ev (fun n=>cost_Guard n ⟨D,ts⟩ (s.map (nm1 D))) k ∧ Ev (fun n=>ref22_Guard n ⟨D,ts⟩ (s.map (nm1 D))) (g : Int)) ⟨0,0⟩ (fun s hs=>by
  obtain ⟨g,g1,g2,g3⟩:=Guard_ev D ts (s.map (nm1 D)) (by simp; omega) hz hw
  exact ⟨_,g,g3,rfl,g1,g2⟩)
 obtain ⟨ku,hu⟩:=pickF (fun v : Int=>∃ k : Nat,v = (k : Int) ∧ k < D.length) (fun v (k : Cx)=>∃ g : Nat,g ≤ 86093442000000 ∧ k = ⟨FloatKind.f64.nearest (g : Int),4607182418800017408⟩ ∧ Ev (fun n=>cost_Upgrade n ⟨D,ts⟩ (nm1 D v)) k ∧ Ev (fun n=>ref22_Upgrade n ⟨D,ts⟩ (nm1 D v)) (g : Int)) ⟨0,0⟩ (fun v _=>by
  obtain ⟨g,g1,g2,g3⟩:=Upgrade_ev D ts (nm1 D v) hz hw
  exact ⟨_,g,by omega,rfl,g1,g2⟩)
 refine ⟨kg,ku,fun s hs=>?_,fun s hs=>?_,fun s hs=>?_,fun s hs=>?_,fun s hs=>?_,fun s hs=>?_⟩
 ·obtain ⟨g,_,_,h,_⟩:=hg s hs; exact h
 ·obtain ⟨g,_,e,_,h⟩:=hg s hs
  rw [e]
  exact Ev.bind h (Ev.of_eq (g:=fun n=>some _) (fun n=>by simp only [ref22_Cost,nr1]) (Ev.ret _))
 ·obtain ⟨g,_,_,h,_⟩:=hu s hs; exact h
 ·obtain ⟨g,_,e,_,h⟩:=hu s hs
  rw [e]
  exact Ev.bind h (Ev.of_eq (g:=fun n=>some _) (fun n=>by simp only [ref22_Cost,nr1]) (Ev.ret _))
 ·obtain ⟨g,h1,h2,_⟩:=hg s hs; exact ⟨g,h1,h2⟩
 ·obtain ⟨g,h1,h2,_⟩:=hu s hs; exact ⟨g,h1,h2⟩
def gc (kg : List Int → Cx) (s : List Int) : Cand:=⟨true,s,kg s⟩
def uc (ku : Int → Cx) (v : Int) : Cand:=⟨false,[v],ku v⟩
section
variable {D : List Decl} {ts : List (List Stmt)} {kg : List Int → Cx} {ku : Int → Cx} (hC : Costs D ts kg ku)
include hC
theorem Of_L1 (r : List Int) (l1 : List Cand) (i2 : Int) (ss : List (List Int)) (h1 : ss.length ≤ 100) (h8 : ∀ s ∈ ss,s.length ≤ 8) (hi : ∀ s ∈ ss,InD D s) :
  ∀ (l pre : List (List Int)) (acc : List Cand),ss = pre ++ l → acc.length ≤ pre.length + 100 → Ev (fun n=>cands_Of_L1 n ⟨D,ts⟩ r l1 i2 ss acc pre.length) (acc ++ l.map (gc kg))
 | [],pre,acc,e,h=>by
  rw [List.append_nil] at e
  subst e
  have hs : ∀ n,Clip_Cand n acc = some acc:=fun n=>by simp only [Clip_Cand,sub_all,Option.bind_some]
  exact Ev.step (Ev.of_eq (g:=fun n=>some acc) (fun n=>by simp only [cands_Of_L1,ix_ge,cond_false,hs,Option.bind_some]) (by simpa using Ev.ret acc))
 | s :: t,pre,acc,e,h=>by
  have hp : pre.length + 1 ≤ 100:=by rw [e] at h1; simp at h1; omega
  have hs8:=h8 s (by rw [e]; simp)
  have hsi:=hi s (by rw [e]; simp)
  have d1 : decide ((pre.length : Int) < ln ss) = true:=by rw [e]; exact ix_lt _ _ _
  have g1 : idx ss (pre.length : Int) = some s:=by rw [e]; exact ix_get _ _ _
  have rm0 : room s_int.i1.bytes ([] : List Int).length s.length = true:=roomC _ _ (by simp; omega)
  have cl : ∀ n,Clone_int n s = some s:=fun n=>by simp only [Clone_int,rm0,cond_true,List.nil_append]
  have cp : ∀ n,Clip_int n s = some s:=fun n=>by simp only [Clip_int,sub_all,Option.bind_some]
  have rm : ∀ c : Cand,room s_Cand.i1.bytes acc.length [c].length = true:=fun c=>roomCa _ _ (by simp; omega)
  have nx:=Of_L1 r l1 i2 ss h1 h8 hi t (pre ++ [s]) (acc ++ [gc kg s]) (by rw [e]; exact ix_cons _ _ _) (by simp; omega)
  rw [List.append_assoc,List.singleton_append,← List.map_cons] at nx
  refine Ev.step (Ev.of_eq (g:=fun n=>(cands_named n ⟨D,ts⟩ s).bind fun r19=>(cost_Guard n ⟨D,ts⟩ r19).bind fun r20=>bif room s_Cand.i1.bytes acc.length [(Cand.mk true s r20)].length then cands_Of_L1 n ⟨D,ts⟩ r l1 i2 ss (acc ++ [(Cand.mk true s r20)]) ((pre ++ [s]).length) else none) (fun n=>?_) (Ev.bind (named_ev D ts s (by omega) hsi) (Ev.bind (hC.gcode s ⟨hsi,hs8⟩) (Ev.yes (rm _) nx))))
  simp only [cands_Of_L1,d1,g1,cl,cp,cond_true,Option.bind_some]
  rw [ix_wr pre s (by omega)]
theorem Of_L0 (r : List Int) (hr : r.length ≤ 8) (hi : InD D r) :
  ∀ (l pre : List Int) (ups : List Cand),r = pre ++ l → ups.length ≤ pre.length → Ev (fun n=>cands_Of_L0 n ⟨D,ts⟩ r ups pre.length) (ups ++ (l.filter (pln D)).map (uc ku) ++ (sts r).map (gc kg))
 | [],pre,ups,e,h=>by
  rw [List.append_nil] at e
  subst e
  obtain ⟨o1,o2⟩:=sts_ok r hr
  have k1:=Of_L1 hC r ups (r.length : Int) (sts r) o1 (fun s hs=>(o2 s hs).1) (fun s hs v hv=>hi v ((o2 s hs).2 v hv)) (sts r) [] ups rfl (by simp; omega)
  refine Ev.step (Ev.of_eq (g:=fun n=>(cands_sets n r).bind fun r13=>cands_Of_L1 n ⟨D,ts⟩ r ups (r.length : Int) r13 ups 0) (fun n=>by simp only [cands_Of_L0,ix_ge,cond_false]) (Ev.bind (sets_ev r hr) ?_))
  simpa using k1
 | x :: t,pre,ups,e,h=>by
  have hp : pre.length + 1 ≤ 8:=by rw [e] at hr; simp at hr; omega
  have hx:=hi x (by rw [e]; simp)
  obtain ⟨d,g,hn,hpl⟩:=inD_get hx
  have d1 : decide ((pre.length : Int) < ln r) = true:=by rw [e]; exact ix_lt _ _ _
  have g1 : idx r (pre.length : Int) = some x:=by rw [e]; exact ix_get _ _ _
  have d8 : decide (ln r ≤ 8) = true:=decide_eq_true (by show ((r.length : Nat) : Int) ≤ 8; omega)
  obtain ⟨b,hb⟩:=wide_ev D ts r (by omega) hi
  cases c : (d.Kind == 1)
  ·have k3:=Of_L0 r hr hi t (pre ++ [x]) ups (by rw [e]; exact ix_cons _ _ _) (by simp; omega)
   rw [List.filter_cons_of_neg (by rw [hpl,c]; simp)]
   refine Ev.step (Ev.of_eq (g:=fun n=>(ContainsFunc_int_fcands_Of_2 n r ⟨D,ts⟩).bind fun r6=>cands_Of_L0 n ⟨D,ts⟩ r ups ((pre ++ [x]).length)) (fun n=>?_) (Ev.bind hb k3))
   simp only [cands_Of_L0,d1,g1,jn,cands_Of_1,g,c,cond_true,cond_false,Option.bind_some]
   rw [ix_wr pre x (by omega)]
  ·have hu:=hC.ucode x hx
   rw [hn] at hu
   have rm : ∀ c : Cand,room s_Cand.i1.bytes ups.length [c].length = true:=fun c=>roomCa _ _ (by simp; omega)
   have k3:=Of_L0 r hr hi t (pre ++ [x]) (ups ++ [uc ku x]) (by rw [e]; exact ix_cons _ _ _) (by simp; omega)
   rw [List.filter_cons_of_pos (by rw [hpl,c]),List.map_cons]
   refine Ev.step (Ev.of_eq (g:=fun n=>(ContainsFunc_int_fcands_Of_2 n r ⟨D,ts⟩).bind fun r6=>(cost_Upgrade n ⟨D,ts⟩ d.Name).bind fun r11=>bif room s_Cand.i1.bytes ups.length [(Cand.mk false [x] r11)].length then cands_Of_L0 n ⟨D,ts⟩ r (ups ++ [(Cand.mk false [x] r11)]) ((pre ++ [x]).length) else none) (fun n=>?_) (Ev.bind hb (Ev.bind hu (Ev.yes (rm _) (by simpa [uc] using k3)))))
   simp only [cands_Of_L0,d1,g1,jn,cands_Of_1,g,c,d8,cond_true,cond_false,Option.bind_some]
   rw [ix_wr pre x (by omega)]
theorem Of_ev (r : List Int) (hr : r.length ≤ 8) (hi : InD D r) : Ev (fun n=>cands_Of n ⟨D,ts⟩ r) ((r.filter (pln D)).map (uc ku) ++ (sts r).map (gc kg)) :=
 Ev.of_eq (fun n=>by simp only [cands_Of]; rfl) (by simpa using Of_L0 hC r hr hi r [] [] rfl (by simp))
theorem rguard_ev (s : List Int) (hi : InD D s) (h8 : s.length ≤ 8) : Ev (fun n=>ref22_guard n ⟨D,ts⟩ s) (gc kg s) ∧ Ev (fun n=>ref22_guard_o n ⟨D,ts⟩ s) (gc kg s):=by
 have h:=hC.gref s ⟨hi,h8⟩
 have nm:=rnamed_ev D ts s (by omega) hi
 have key : Ev (fun n=>(ref22_namesOf n ⟨D,ts⟩ s).bind fun r1=>((ref22_Guard n ⟨D,ts⟩ r1).bind fun r2=>ref22_Cost n r2 1).bind fun r3=>some (Cand.mk true s r3)) (gc kg s):=Ev.bind nm (Ev.bind (f:=fun n=>(ref22_Guard n ⟨D,ts⟩ (s.map (nm1 D))).bind fun r2=>ref22_Cost n r2 1) (g:=fun n r3=>some (Cand.mk true s r3)) h (Ev.ret _))
 exact ⟨Ev.of_eq (fun n=>by simp only [ref22_guard,Option.bind_assoc]) key,Ev.of_eq (fun n=>by simp only [ref22_guard_o,Option.bind_assoc]) key⟩
theorem rC_L2 (r : List Int) (h5 : 4 < r.length) (hr : r.length ≤ 8) (hi : InD D r) (i1 i2 i8 : Int) (l7 : List Cand) :
  ∀ (l pre : List Int) (acc : List Cand),r = pre ++ l → acc.length ≤ pre.length + 100 → Ev (fun n=>ref22_Cands_L2 n ⟨D,ts⟩ r i1 i2 l7 i8 acc pre.length) (acc ++ l.map (fun v=>gc kg [v]) ++ [gc kg r])
 | [],pre,acc,e,h=>by
  rw [List.append_nil] at e
  subst e
  have rm0 : room s_int.i1.bytes ([] : List Int).length r.length = true:=roomC _ _ (by simp; omega)
  have rm : ∀ c : Cand,room s_Cand.i1.bytes acc.length [c].length = true:=fun c=>roomCa _ _ (by simp; omega)
  refine Ev.step (Ev.of_eq (g:=fun n=>(ref22_guard_o n ⟨D,ts⟩ r).bind fun r29=>bif room s_Cand.i1.bytes acc.length [r29].length then some (acc ++ [r29]) else none) (fun n=>?_) (Ev.bind (rguard_ev hC r hi hr).2 (Ev.yes (rm _) (by simpa using Ev.ret _))))
  simp only [ref22_Cands_L2,ix_ge,cond_false,jn,rm0,cond_true,List.nil_append]
 | x :: t,pre,acc,e,h=>by
  have hp : pre.length + 1 ≤ 8:=by rw [e] at hr; simp at hr; omega
  have d1 : decide ((pre.length : Int) < ln r) = true:=by rw [e]; exact ix_lt _ _ _
  have g1 : idx r (pre.length : Int) = some x:=by rw [e]; exact ix_get _ _ _
  have d8 : decide (ln r ≤ 8) = true:=decide_eq_true (by show ((r.length : Nat) : Int) ≤ 8; omega)
  have rm : ∀ c : Cand,room s_Cand.i1.bytes acc.length [c].length = true:=fun c=>roomCa _ _ (by simp; omega)
  have hx : InD D [x]:=fun v hv=>by
   have : v = x:=by simpa using hv
   rw [this]; exact hi x (by rw [e]; simp)
  have nx:=rC_L2 r h5 hr hi i1 i2 i8 l7 t (pre ++ [x]) (acc ++ [gc kg [x]]) (by rw [e]; exact ix_cons _ _ _) (by simp; omega)
  refine Ev.step (Ev.of_eq (g:=fun n=>(ref22_guard n ⟨D,ts⟩ [x]).bind fun r26=>bif room s_Cand.i1.bytes acc.length [r26].length then ref22_Cands_L2 n ⟨D,ts⟩ r i1 i2 l7 i8 (acc ++ [r26]) ((pre ++ [x]).length) else none) (fun n=>?_) (Ev.bind (rguard_ev hC [x] hx (by simp)).1 (Ev.yes (rm _) (by simpa using nx))))
  simp only [ref22_Cands_L2,d1,d8,g1,jn,cond_true,Option.bind_some]
  rw [ix_wr pre x (by omega)]
omit hC in
theorem rC_L4 (p : Prog) (r : List Int) (hr : r.length ≤ 8) (i1 i2 i8 i32 x33 : Int) (l7 l31 : List Cand) (R : List Cand) :
  ∀ (l pre : List Int) (acc : List Int),r = pre ++ l → acc.length ≤ pre.length →
   Ev (fun n=>(ref22_guard_o n p (acc ++ pk i32 l pre.length)).bind fun r42=>bif room s_Cand.i1.bytes l31.length [r42].length then ref22_Cands_L3 n p r i1 i2 l7 i8 (l31 ++ [r42]) (wr (i32 + 1)) else none) R →
   Ev (fun n=>ref22_Cands_L4 n p r i1 i2 l7 i8 l31 i32 x33 acc pre.length) R
 | [],pre,acc,e,h,hR=>by
  rw [List.append_nil] at e
  subst e
  refine Ev.step (Ev.of_eq (fun n=>?_) hR)
  simp only [ref22_Cands_L4,ix_ge,cond_false,pk,List.append_nil]
 | x :: t,pre,acc,e,h,hR=>by
  have hp : pre.length + 1 ≤ 8:=by rw [e] at hr; simp at hr; omega
  have d1 : decide ((pre.length : Int) < ln r) = true:=by rw [e]; exact ix_lt _ _ _
  have g1 : idx r (pre.length : Int) = some x:=by rw [e]; exact ix_get _ _ _
  have sh:=shl_of pre.length (by omega)
  have p0 : ((((2 ^ pre.length : Nat) : Int)) == 0) = false:=by
   have:=Nat.pow_pos (n:=pre.length) (show 0 < 2 by omega)
   exact beq_eq_false_iff_ne.2 (fun q=>by have:=Int.ofNat_eq_zero.1 q; omega)
  have hb : (((wr (i32.tdiv ((2 ^ pre.length : Nat) : Int))).tmod 2) == 1) = bq i32 pre.length:=rfl
  have rm : room s_int.i1.bytes acc.length [x].length = true:=roomC _ _ (by simp; omega)
  have w:=ix_wr pre x (by omega)
  rw [pk] at hR
  cases c : bq i32 pre.length
  ·rw [c] at hR
   refine Ev.step (Ev.of_eq (fun n=>?_) (rC_L4 p r hr i1 i2 i8 i32 x33 l7 l31 R t (pre ++ [x]) acc (by rw [e]; exact ix_cons _ _ _) (by simp; omega) (by simpa using hR)))
   simp only [ref22_Cands_L4,d1,g1,jn,sh,p0,hb,c,cond_true,cond_false,Option.bind_some,w]
  ·rw [c] at hR
   refine Ev.step (Ev.of_eq (fun n=>?_) (rC_L4 p r hr i1 i2 i8 i32 x33 l7 l31 R t (pre ++ [x]) (acc ++ [x]) (by rw [e]; exact ix_cons _ _ _) (by simp; omega) (by simpa using hR)))
   simp only [ref22_Cands_L4,d1,g1,jn,sh,p0,hb,c,rm,cond_true,cond_false,Option.bind_some,w]
theorem rC_L3 (r : List Int) (hr : r.length ≤ 4) (hi : InD D r) (i1 i2 i8 : Int) (l7 : List Cand) :
  ∀ (m i : Nat) (acc : List Cand),i + m = 2 ^ r.length → acc.length ≤ i + 100 → Ev (fun n=>ref22_Cands_L3 n ⟨D,ts⟩ r i1 i2 l7 i8 acc (i : Int)) (acc ++ (List.range' i m).map fun (j : Nat)=>gc kg (pk (j : Int) r 0))
 | 0,i,acc,e,h=>by
  have sh : ishl .i64 1 (IntKind.u64.wrap (ln r)) = some ((2 ^ r.length : Nat) : Int):=shl_of r.length (by omega)
  have d1 : decide ((i : Int) < ((2 ^ r.length : Nat) : Int)) = false:=decide_eq_false (by omega)
  refine Ev.step (Ev.of_eq (g:=fun n=>some acc) (fun n=>?_) (by simpa using Ev.ret acc))
  simp only [ref22_Cands_L3,sh,d1,cond_false,Option.bind_some]
 | m + 1,i,acc,e,h=>by
  have h16:=two_le r.length hr
  have sh : ishl .i64 1 (IntKind.u64.wrap (ln r)) = some ((2 ^ r.length : Nat) : Int):=shl_of r.length (by omega)
  have d1 : decide ((i : Int) < ((2 ^ r.length : Nat) : Int)) = true:=decide_eq_true (by omega)
  have rm : ∀ c : Cand,room s_Cand.i1.bytes acc.length [c].length = true:=fun c=>roomCa _ _ (by simp; omega)
  have e3 : wr ((i : Int) + 1) = ((i + 1 : Nat) : Int):=by rw [wr_of (by omega)]; rfl
  have nx:=rC_L3 r hr hi i1 i2 i8 l7 m (i + 1) (acc ++ [gc kg (pk (i : Int) r 0)]) (by omega) (by simp; omega)
  have gd:=(rguard_ev hC (pk (i : Int) r 0) (fun v hv=>hi v (pk_mem _ _ _ v hv)) (Nat.le_trans (pk_len _ _ _) (by omega))).2
  have key:=rC_L4 ⟨D,ts⟩ r (by omega) i1 i2 i8 (i : Int) ((2 ^ r.length : Nat) : Int) l7 acc _ r [] [] rfl (by simp) (Ev.bind (by simpa using gd) (Ev.yes (rm _) (by rw [e3]; exact nx)))
  rw [List.range'_succ,List.map_cons]
  rw [List.append_assoc,List.singleton_append] at key
  exact Ev.step (Ev.of_eq (g:=fun n=>ref22_Cands_L4 n ⟨D,ts⟩ r i1 i2 l7 i8 acc (i : Int) ((2 ^ r.length : Nat) : Int) [] 0) (fun n=>by simp only [ref22_Cands_L3,sh,d1,cond_true,Option.bind_some]) key)
theorem rC_L1 (r : List Int) (hr : r.length ≤ 8) (hi : InD D r) (i1 i2 : Int) :
  ∀ (l pre : List Int) (ups : List Cand),r = pre ++ l → ups.length ≤ pre.length → Ev (fun n=>ref22_Cands_L1 n ⟨D,ts⟩ r i1 i2 ups pre.length) (ups ++ (l.filter (pln D)).map (uc ku) ++ (sts r).map (gc kg))
 | [],pre,ups,e,h=>by
  rw [List.append_nil] at e
  subst e
  by_cases h5 : r.length > 4
  ·have d5 : decide (ln r > 4) = true:=decide_eq_true (by show ((r.length : Nat) : Int) > 4; omega)
   have k1:=rC_L2 hC r h5 hr hi i1 i2 (r.length : Int) ups r [] ups rfl (by simp; omega)
   have e1 : sts r = r.map (fun v=>[v]) ++ [r]:=by unfold sts; rw [decide_eq_true h5,cond_true]
   refine Ev.step (Ev.of_eq (g:=fun n=>ref22_Cands_L2 n ⟨D,ts⟩ r i1 i2 ups (r.length : Int) ups 0) (fun n=>by simp only [ref22_Cands_L1,ix_ge,cond_false,d5,cond_true]) ?_)
   rw [e1]
   simpa [List.map_map,Function.comp_def] using k1
  ·have d5 : decide (ln r > 4) = false:=decide_eq_false (by show ¬ ((r.length : Nat) : Int) > 4; omega)
   have p2:=Nat.pow_pos (n:=r.length) (show 0 < 2 by omega)
   have k1:=rC_L3 hC r (by omega) hi i1 i2 (r.length : Int) ups (2 ^ r.length - 1) 1 ups (by omega) (by omega)
   have e1 : sts r = (List.range' 1 (2 ^ r.length - 1)).map fun (i : Nat)=>pk (i : Int) r 0:=by unfold sts; rw [decide_eq_false h5,cond_false]
   refine Ev.step (Ev.of_eq (g:=fun n=>ref22_Cands_L3 n ⟨D,ts⟩ r i1 i2 ups (r.length : Int) ups 1) (fun n=>by simp only [ref22_Cands_L1,ix_ge,cond_false,d5]) ?_)
   rw [e1]
   simpa [List.map_map,Function.comp_def] using k1
 | x :: t,pre,ups,e,h=>by
  have hp : pre.length + 1 ≤ 8:=by rw [e] at hr; simp at hr; omega
  have hx:=hi x (by rw [e]; simp)
  obtain ⟨d,g,hn,hpl⟩:=inD_get hx
  have d1 : decide ((pre.length : Int) < ln r) = true:=by rw [e]; exact ix_lt _ _ _
  have g1 : idx r (pre.length : Int) = some x:=by rw [e]; exact ix_get _ _ _
  have d8 : decide (ln r ≤ 8) = true:=decide_eq_true (by show ((r.length : Nat) : Int) ≤ 8; omega)
  cases c : (d.Kind == 1)
  ·have k3:=rC_L1 r hr hi i1 i2 t (pre ++ [x]) ups (by rw [e]; exact ix_cons _ _ _) (by simp; omega)
   rw [List.filter_cons_of_neg (by rw [hpl,c]; simp)]
   refine Ev.step (Ev.of_eq (fun n=>?_) k3)
   simp only [ref22_Cands_L1,d1,g1,jn,g,c,cond_true,cond_false,Option.bind_some]
   rw [ix_wr pre x (by omega)]
  ·have hu:=hC.uref x hx
   rw [hn] at hu
   have rm : ∀ c : Cand,room s_Cand.i1.bytes ups.length [c].length = true:=fun c=>roomCa _ _ (by simp; omega)
   have k3:=rC_L1 r hr hi i1 i2 t (pre ++ [x]) (ups ++ [uc ku x]) (by rw [e]; exact ix_cons _ _ _) (by simp; omega)
   rw [List.filter_cons_of_pos (by rw [hpl,c]),List.map_cons]
   refine Ev.step (Ev.of_eq (g:=fun n=>((ref22_Upgrade n ⟨D,ts⟩ d.Name).bind fun r2=>ref22_Cost n r2 1).bind fun r11=>bif room s_Cand.i1.bytes ups.length [(Cand.mk false [x] r11)].length then ref22_Cands_L1 n ⟨D,ts⟩ r i1 i2 (ups ++ [(Cand.mk false [x] r11)]) ((pre ++ [x]).length) else none) (fun n=>?_) (Ev.bind (f:=fun n=>(ref22_Upgrade n ⟨D,ts⟩ d.Name).bind fun r2=>ref22_Cost n r2 1) (g:=fun n r11=>bif room s_Cand.i1.bytes ups.length [(Cand.mk false [x] r11)].length then ref22_Cands_L1 n ⟨D,ts⟩ r i1 i2 (ups ++ [(Cand.mk false [x] r11)]) ((pre ++ [x]).length) else none) hu (Ev.yes (rm _) (by simpa [uc] using k3))))
   simp only [ref22_Cands_L1,d1,g1,jn,g,c,d8,cond_true,cond_false,Option.bind_some,Option.bind_assoc]
   rw [ix_wr pre x (by omega)]
theorem rC_L0 (r : List Int) (hr : r.length ≤ 8) (hi : InD D r) :
  ∀ (l pre : List Int) (i1 : Int),r = pre ++ l → Ev (fun n=>ref22_Cands_L0 n ⟨D,ts⟩ r i1 pre.length) ((r.filter (pln D)).map (uc ku) ++ (sts r).map (gc kg))
 | [],pre,i1,e=>by
  rw [List.append_nil] at e
  subst e
  have k1:=rC_L1 hC r hr hi i1 (r.length : Int) r [] [] rfl (by simp)
  exact Ev.step (Ev.of_eq (g:=fun n=>ref22_Cands_L1 n ⟨D,ts⟩ r i1 (r.length : Int) ([] : List Cand) 0) (fun n=>by simp only [ref22_Cands_L0,ix_ge,cond_false]) (by simpa using k1))
 | x :: t,pre,i1,e=>by
  have hp : pre.length + 1 ≤ 8:=by rw [e] at hr; simp at hr; omega
  obtain ⟨d,g,hn,hpl⟩:=inD_get (hi x (by rw [e]; simp))
  have d1 : decide ((pre.length : Int) < ln r) = true:=by rw [e]; exact ix_lt _ _ _
  have g1 : idx r (pre.length : Int) = some x:=by rw [e]; exact ix_get _ _ _
  have w:=ix_wr pre x (by omega)
  cases c : (d.Kind == 1)
  ·refine Ev.step (Ev.of_eq (fun n=>?_) (rC_L0 r hr hi t (pre ++ [x]) i1 (by rw [e]; exact ix_cons _ _ _)))
   simp only [ref22_Cands_L0,d1,g1,jn,g,c,w,cond_true,cond_false,Option.bind_some]
  ·refine Ev.step (Ev.of_eq (fun n=>?_) (rC_L0 r hr hi t (pre ++ [x]) (wr (i1 + 1)) (by rw [e]; exact ix_cons _ _ _)))
   simp only [ref22_Cands_L0,d1,g1,jn,g,c,w,cond_true,cond_false,Option.bind_some]
theorem rC_ev (r : List Int) (hr : r.length ≤ 8) (hi : InD D r) : Ev (fun n=>ref22_Cands n ⟨D,ts⟩ r) ((r.filter (pln D)).map (uc ku) ++ (sts r).map (gc kg)) :=
 Ev.of_eq (fun n=>by simp only [ref22_Cands]; rfl) (rC_L0 hC r hr hi r [] 0 rfl)
end
end Go.Su.YtepcmciljmennaaGreat
namespace Go.Su.YtepcmciljmennaaGreat
open Go.Mx Go.Proofs
set_option linter.unusedVariables false
set_option linter.unusedSimpArgs false
set_option maxHeartbeats 4000000
theorem inc_unique : ∀ (a b : List Int),a.Pairwise (· < ·) → b.Pairwise (· < ·) → (∀ v,v ∈ a ↔ v ∈ b) → a = b
 | [],b,_,_,h=>by
  cases b with
  | nil=>rfl
  | cons y b=>exact absurd ((h y).2 (by simp)) (by simp)
 | x :: a,[],_,_,h=>absurd ((h x).1 (by simp)) (by simp)
 | x :: a,y :: b,ha,hb,h=>by
  obtain ⟨ha1,ha2⟩:=List.pairwise_cons.1 ha
  obtain ⟨hb1,hb2⟩:=List.pairwise_cons.1 hb
  have hxy : x = y:=by
   have h1:=(h x).1 (by simp)
   have h2:=(h y).2 (by simp)
   rcases List.mem_cons.1 h1 with e | h1
   ·exact e
   ·rcases List.mem_cons.1 h2 with e | h2
    ·exact e.symm
    ·have:=hb1 x h1
     have:=ha1 y h2
     omega
  subst hxy
  rw [inc_unique a b ha2 hb2 fun v=>⟨fun hv=>?_,fun hv=>?_⟩]
  ·rcases List.mem_cons.1 ((h v).1 (by simp [hv])) with e | h1
   ·have:=ha1 v hv; omega
   ·exact h1
  ·rcases List.mem_cons.1 ((h v).2 (by simp [hv])) with e | h1
   ·have:=hb1 v hv; omega
   ·exact h1
theorem bang_get (zs : List Int) (j : Nat) (h : j < zs.length) : zs.toArray[j]! = zs[j]:=by simp [h]
theorem srt_sorted (l : List Int) : (srt l).Pairwise (· ≤ ·):=by
 have:=List.pairwise_mergeSort (le:=fun x y : Int=>decide (x ≤ y)) (fun a b c h1 h2=>by simp only [decide_eq_true_eq] at *; omega) (fun a b=>by simp only [Bool.or_eq_true,decide_eq_true_eq]; omega) l
 exact this.imp fun h=>of_decide_eq_true h
theorem srt_mem (l : List Int) (v : Int) : v ∈ srt l ↔ v ∈ l:=(List.mergeSort_perm l _).mem_iff
theorem cpt_inc (zs : List Int) (h : zs.Pairwise (· ≤ ·)) : (cpt zs).Pairwise (· < ·):=by
 have hle : ∀ i j (hi : i < zs.length) (hj : j < zs.length),i ≤ j → zs[i] ≤ zs[j]:=fun i j hi hj hij=>by
  by_cases e : i = j
  ·subst e; exact Int.le_refl _
  ·exact List.pairwise_iff_getElem.1 h i j hi hj (by omega)
 unfold cpt Lib.compact Lib.compactUpTo
 rw [List.pairwise_map]
 refine List.Pairwise.imp_of_mem ?_ (List.Pairwise.filter _ List.pairwise_lt_range)
 intro i j hi hj hij
 have hi' : i < zs.length:=by simpa using (List.mem_filter.1 hi).1
 obtain ⟨hj1,hj2⟩:=List.mem_filter.1 hj
 have hj' : j < zs.length:=by simpa using hj1
 have hk : j = 0 ∨ zs.toArray[j]! ≠ zs.toArray[j - 1]!:=by simpa [Lib.keeps] using hj2
 rw [bang_get zs j hj',bang_get zs (j - 1) (by omega)] at hk
 rw [bang_get zs i hi',bang_get zs j hj']
 have h1:=hle i (j - 1) hi' (by omega) (by omega)
 have h2:=hle (j - 1) j (by omega) hj' (by omega)
 rcases hk with hk | hk
 ·omega
 ·omega
theorem cpt_mem (zs : List Int) (v : Int) : v ∈ cpt zs ↔ v ∈ zs:=by
 unfold cpt Lib.compact Lib.compactUpTo
 rw [List.mem_map]
 constructor
 ·rintro ⟨j,hj,rfl⟩
  have hj' : j < zs.length:=by simpa using (List.mem_filter.1 hj).1
  rw [bang_get zs j hj']
  exact List.getElem_mem hj'
 ·intro hv
  obtain ⟨j,hj,rfl⟩:=List.getElem_of_mem hv
  have key : ∀ j (hj : j < zs.length),∃ a,a ∈ (List.range zs.length).filter (Lib.keeps zs.toArray) ∧ zs.toArray[a]! = zs[j]:=by
   intro j
   induction j with
   | zero =>
    intro hj
    exact ⟨0,List.mem_filter.2 ⟨List.mem_range.2 hj,by simp [Lib.keeps]⟩,bang_get zs 0 hj⟩
   | succ j ih =>
    intro hj
    by_cases e : zs[j + 1] = zs[j]'(by omega)
    ·obtain ⟨a,h1,h2⟩:=ih (by omega)
     exact ⟨a,h1,by rw [h2,e]⟩
    ·refine ⟨j + 1,List.mem_filter.2 ⟨List.mem_range.2 hj,?_⟩,bang_get zs (j + 1) hj⟩
     have : zs.toArray[j + 1]! ≠ zs.toArray[j]!:=by rw [bang_get zs (j + 1) hj,bang_get zs j (by omega)]; exact e
     simpa [Lib.keeps] using this
  exact key j hj
theorem room8 (a b : Nat) (h : a + b ≤ 10000000) : room s_int.i1.bytes a b = true:=room_of (by
 have : s_int.i1.bytes = 8:=rfl
 rw [this]; omega)
theorem clipI (n : Nat) (l : List Int) : Clip_int n l = some l:=by simp only [Clip_int,sub_all,Option.bind_some]
theorem cR_L0 (R : List Race) (hR : R.length ≤ 1048576) : ∀ l pre : List Race,R = pre ++ l → Ev (fun n=>cands_Racy_L0 n R (pre.map Race.Name) pre.length) (cpt (srt (R.map Race.Name)))
 | [],pre,e=>by
  rw [List.append_nil] at e
  subst e
  have s1 : sroomI (R.map Race.Name) = true:=decide_eq_true (by rw [List.length_map]; omega)
  have s2 : sroomI (srt (R.map Race.Name)) = true:=decide_eq_true (by rw [srt_length,List.length_map]; omega)
  exact Ev.step (Ev.of_eq (g:=fun n=>some (cpt (srt (R.map Race.Name)))) (fun n=>by simp only [cands_Racy_L0,ix_ge,cond_false,s1,s2,cond_true,clipI,Option.bind_some]) (Ev.ret _))
 | x :: r,pre,e=>by
  have hp : pre.length + 1 ≤ 1048576:=by rw [e] at hR; simp at hR; omega
  have d1 : decide ((pre.length : Int) < ln R) = true:=by rw [e]; exact ix_lt _ _ _
  have g1 : idx R (pre.length : Int) = some x:=by rw [e]; exact ix_get _ _ _
  have rm : room s_int.i1.bytes (pre.map Race.Name).length [x.Name].length = true:=room8 _ _ (by simp; omega)
  have nx:=cR_L0 R hR r (pre ++ [x]) (by rw [e]; exact ix_cons _ _ _)
  rw [List.map_append,List.map_singleton] at nx
  refine Ev.step (Ev.of_eq (fun n=>?_) nx)
  simp only [cands_Racy_L0,d1,g1,rm,cond_true,Option.bind_some]
  rw [ix_wr pre x (by omega)]
theorem cR_ev (R : List Race) (hR : R.length ≤ 1048576) : Ev (fun n=>cands_Racy n R) (cpt (srt (R.map Race.Name))) :=
 Ev.of_eq (fun n=>by simp only [cands_Racy]; rfl) (cR_L0 R hR R [] rfl)
def Ends1 (out : List Int) (lo : Int) : Prop:=(out = [] ∧ lo = -1) ∨ ∃ o,out = o ++ [lo]
def NX (R pre : List Race) (lo i2 : Int) : Prop:=(i2 = -1 ∧ ∀ y ∈ pre,¬ lo < y.Name) ∨ ∃ (k : Nat) (z : Race),i2 = (k : Int) ∧ R[k]? = some z ∧ z ∈ pre ∧ lo < z.Name ∧ ∀ y ∈ pre,lo < y.Name → z.Name ≤ y.Name
theorem rR_L1 (R : List Race) (hR : R.length ≤ 1048576) (h0 : ∀ y ∈ R,0 ≤ y.Name) (out : List Int) (lo : Int) (ho : Ends1 out lo) (hol : out.length ≤ 1000000) :
  ∀ (l pre : List Race) (i2 : Int),R = pre ++ l → NX R pre lo i2 → ∃ i2',NX R R lo i2' ∧ ∀ res,Ev (fun n=>bif decide (i2' < 0) then some out else (idx R i2').bind fun x12=>bif room s_int.i1.bytes out.length [x12.Name].length then ref22_Racy_L0 n R (out ++ [x12.Name]) else none) res →
   Ev (fun n=>ref22_Racy_L1 n R out i2 pre.length) res
 | [],pre,i2,e,hn=>by
  rw [List.append_nil] at e
  subst e
  refine ⟨i2,hn,fun res h=>Ev.step (Ev.of_eq (fun n=>?_) h)⟩
  simp only [ref22_Racy_L1,ix_ge,cond_false]
 | x :: r,pre,i2,e,hn=>by
  have hp : pre.length + 1 ≤ 1048576:=by rw [e] at hR; simp at hR; omega
  have d1 : decide ((pre.length : Int) < ln R) = true:=by rw [e]; exact ix_lt _ _ _
  have g1 : idx R (pre.length : Int) = some x:=by rw [e]; exact ix_get _ _ _
  have w:=ix_wr pre x (by omega)
  have hx0:=h0 x (by rw [e]; simp)
  have hk : R[pre.length]? = some x:=by rw [e]; simp
  have go : ∀ i3 : Int,NX R (pre ++ [x]) lo i3 → (∀ n,ref22_Racy_L1 (n + 1) R out i2 pre.length = ref22_Racy_L1 n R out i3 ((pre ++ [x]).length)) → ∃ i2',NX R R lo i2' ∧ ∀ res,Ev (fun n=>bif decide (i2' < 0) then some out else (idx R i2').bind fun x12=>bif room s_int.i1.bytes out.length [x12.Name].length then ref22_Racy_L0 n R (out ++ [x12.Name]) else none) res →
   Ev (fun n=>ref22_Racy_L1 n R out i2 pre.length) res:=fun i3 h1 h2=>by
   obtain ⟨i2',k1,k2⟩:=rR_L1 R hR h0 out lo ho hol r (pre ++ [x]) i3 (by rw [e]; exact ix_cons _ _ _) h1
   exact ⟨i2',k1,fun res h=>Ev.step (Ev.of_eq h2 (k2 res h))⟩

  have hgt : ∀ (n : Nat) (J8 : Bool → Option (List Int)),(bif ((ln out) == 0) then (bif decide (i2 < 0) then J8 true else (idx R i2).bind fun x11=>J8 (decide (x.Name < x11.Name))) else (idx out (wr ((ln out) - 1))).bind fun x9=>bif decide (x.Name > x9) then (bif decide (i2 < 0) then J8 true else (idx R i2).bind fun x10=>J8 (decide (x.Name < x10.Name))) else J8 false) =
    bif decide (lo < x.Name) then (bif decide (i2 < 0) then J8 true else (idx R i2).bind fun x11=>J8 (decide (x.Name < x11.Name))) else J8 false:=fun n J8=>by
   rcases ho with ⟨h1,h2⟩ | ⟨o,h1⟩
   ·subst h1; subst h2
    have : decide ((-1 : Int) < x.Name) = true:=decide_eq_true (by omega)
    rw [this]; rfl
   ·have e1 : ((ln out) == 0) = false:=by
     rw [h1]
     exact beq_eq_false_iff_ne.2 (by show (((o ++ [lo]).length : Nat) : Int) ≠ 0; simp; omega)
    have e2 : idx out (wr ((ln out) - 1)) = some lo:=by
     have : wr ((ln out) - 1) = ((o.length : Nat) : Int):=by
      rw [wr_of (by show _ ≤ ((out.length : Nat) : Int) - 1 ∧ ((out.length : Nat) : Int) - 1 ≤ _; omega)]
      show ((out.length : Nat) : Int) - 1 = _
      rw [h1]; simp
     rw [this,h1]
     exact ix_get o lo []
    rw [e1,e2]
    rfl
  have stp : ∀ n,ref22_Racy_L1 (n + 1) R out i2 pre.length = bif decide (lo < x.Name) then (bif decide (i2 < 0) then ref22_Racy_L1 n R out pre.length ((pre ++ [x]).length) else (idx R i2).bind fun x11=>bif decide (x.Name < x11.Name) then ref22_Racy_L1 n R out pre.length ((pre ++ [x]).length) else ref22_Racy_L1 n R out i2 ((pre ++ [x]).length)) else ref22_Racy_L1 n R out i2 ((pre ++ [x]).length):=fun n=>by
   have h:=hgt n (fun b7=>bif b7 then ref22_Racy_L1 n R out pre.length ((pre ++ [x]).length) else ref22_Racy_L1 n R out i2 ((pre ++ [x]).length))
   simp only [ref22_Racy_L1,d1,g1,jn,cond_true,Option.bind_some,w]
   simp only [cond_true,cond_false] at h
   exact h
  by_cases hx : lo < x.Name
  ·rcases hn with ⟨h1,h2⟩ | ⟨k,z,h1,h2,h3,h4,h5⟩
   ·refine go (pre.length : Int) (.inr ⟨pre.length,x,rfl,hk,by simp,hx,fun y hy hl=>?_⟩) (fun n=>?_)
    ·rcases List.mem_append.1 hy with hy | hy
     ·exact absurd hl (h2 y hy)
     ·have : y = x:=by simpa using hy
      rw [this]; exact Int.le_refl _
    ·rw [stp n,decide_eq_true hx,cond_true,h1]; rfl
   ·have i0 : decide (i2 < 0) = false:=decide_eq_false (by omega)
    have iz : idx R i2 = some z:=by rw [h1]; exact idx_of (by omega) (by rw [Int.toNat_natCast]; exact h2)
    by_cases hz : x.Name < z.Name
    ·refine go (pre.length : Int) (.inr ⟨pre.length,x,rfl,hk,by simp,hx,fun y hy hl=>?_⟩) (fun n=>?_)
     ·rcases List.mem_append.1 hy with hy | hy
      ·have:=h5 y hy hl; omega
      ·have : y = x:=by simpa using hy
       rw [this]; exact Int.le_refl _
     ·rw [stp n,decide_eq_true hx,cond_true,i0,cond_false,iz,Option.bind_some,decide_eq_true hz,cond_true]
    ·refine go i2 (.inr ⟨k,z,h1,h2,by simp [h3],h4,fun y hy hl=>?_⟩) (fun n=>?_)
     ·rcases List.mem_append.1 hy with hy | hy
      ·exact h5 y hy hl
      ·have : y = x:=by simpa using hy
       rw [this]; omega
     ·rw [stp n,decide_eq_true hx,cond_true,i0,cond_false,iz,Option.bind_some,decide_eq_false hz,cond_false]
  ·refine go i2 ?_ (fun n=>?_)
   ·rcases hn with ⟨h1,h2⟩ | ⟨k,z,h1,h2,h3,h4,h5⟩
    ·refine .inl ⟨h1,fun y hy=>?_⟩
     rcases List.mem_append.1 hy with hy | hy
     ·exact h2 y hy
     ·have : y = x:=by simpa using hy
      rw [this]; exact hx
    ·refine .inr ⟨k,z,h1,h2,by simp [h3],h4,fun y hy hl=>?_⟩
     rcases List.mem_append.1 hy with hy | hy
     ·exact h5 y hy hl
     ·have : y = x:=by simpa using hy
      rw [this] at hl; exact absurd hl hx
   ·rw [stp n,decide_eq_false hx,cond_false]
theorem rR_L0 (R : List Race) (hR : R.length ≤ 1048576) (h0 : ∀ y ∈ R,0 ≤ y.Name) (h23 : ∀ y ∈ R,y.Name ≤ 23) : ∀ (m : Nat) (out : List Int) (lo : Int),23 - lo ≤ m → Ends1 out lo → -1 ≤ lo → lo ≤ 23 → (out.length : Int) ≤ lo + 1 → out.Pairwise (· < ·) → (∀ v ∈ out,v ≤ lo) →
  (∀ v ∈ out,∃ y ∈ R,y.Name = v) → (∀ y ∈ R,y.Name ≤ lo → y.Name ∈ out) → ∃ res,Ev (fun n=>ref22_Racy_L0 n R out) res ∧ res.length ≤ 24 ∧ res.Pairwise (· < ·) ∧ ∀ v,v ∈ res ↔ ∃ y ∈ R,y.Name = v:=by
 intro m
 induction m with
 | zero =>
  intro out lo hm ho hlo1 hlo2 hlen hpw hle hin hall
  obtain ⟨i2',k1,k2⟩:=rR_L1 R hR h0 out lo ho (by omega) R [] (-1) rfl (.inl ⟨rfl,by simp⟩)
  refine ⟨out,Ev.step (Ev.of_eq (fun n=>by simp only [ref22_Racy_L0]; rfl) (k2 out ?_)),by omega,hpw,fun v=>⟨hin v,fun ⟨y,h1,h2⟩=>h2 ▸ hall y h1 (by have:=h23 y h1; omega)⟩⟩
  rcases k1 with ⟨h1,_⟩ | ⟨k,z,h1,h2,h3,h4,h5⟩
  ·rw [h1]; exact Ev.ret _
  ·have:=h23 z h3; omega
 | succ m ih =>
  intro out lo hm ho hlo1 hlo2 hlen hpw hle hin hall
  obtain ⟨i2',k1,k2⟩:=rR_L1 R hR h0 out lo ho (by omega) R [] (-1) rfl (.inl ⟨rfl,by simp⟩)
  rcases k1 with ⟨h1,h2⟩ | ⟨k,z,h1,h2,h3,h4,h5⟩
  ·refine ⟨out,Ev.step (Ev.of_eq (fun n=>by simp only [ref22_Racy_L0]; rfl) (k2 out ?_)),by omega,hpw,fun v=>⟨hin v,fun ⟨y,q1,q2⟩=>q2 ▸ hall y q1 (by have:=h2 y q1; omega)⟩⟩
   rw [h1]; exact Ev.ret _
  ·have z23:=h23 z h3
   obtain ⟨res,r1,r2⟩:=ih (out ++ [z.Name]) z.Name (by omega) (.inr ⟨out,rfl⟩) (by omega) (by omega) (by simp; omega)
    (List.pairwise_append.2 ⟨hpw,List.pairwise_singleton _ _,fun a ha b hb=>by
     have : b = z.Name:=by simpa using hb
     have:=hle a ha; omega⟩)
    (fun v hv=>by
     rcases List.mem_append.1 hv with hv | hv
     ·have:=hle v hv; omega
     ·have : v = z.Name:=by simpa using hv
      omega)
    (fun v hv=>by
     rcases List.mem_append.1 hv with hv | hv
     ·exact hin v hv
     ·exact ⟨z,h3,by
       have : v = z.Name:=by simpa using hv
       exact this.symm⟩)
    (fun y hy hyz=>by
     by_cases c : y.Name ≤ lo
     ·exact List.mem_append_left _ (hall y hy c)
     ·have:=h5 y hy (by omega)
      have : y.Name = z.Name:=by omega
      simp [this])
   refine ⟨res,Ev.step (Ev.of_eq (fun n=>by simp only [ref22_Racy_L0]; rfl) (k2 res ?_)),r2⟩
   have i0 : decide (i2' < 0) = false:=decide_eq_false (by omega)
   have iz : idx R i2' = some z:=by rw [h1]; exact idx_of (by omega) (by rw [Int.toNat_natCast]; exact h2)
   have rm : room s_int.i1.bytes out.length [z.Name].length = true:=room8 _ _ (by simp; omega)
   refine Ev.of_eq (fun n=>?_) r1
   simp only [i0,iz,rm,cond_false,cond_true,Option.bind_some]
theorem racy_same (R : List Race) (hR : R.length ≤ 1048576) (h0 : ∀ y ∈ R,0 ≤ y.Name) (h23 : ∀ y ∈ R,y.Name ≤ 23) : ∃ l,Ev (fun n=>cands_Racy n R) l ∧ Ev (fun n=>ref22_Racy n R) l ∧ l.length ≤ 24:=by
 obtain ⟨res,r1,r2,r3,r4⟩:=rR_L0 R hR h0 h23 24 [] (-1) (by omega) (.inl ⟨rfl,rfl⟩) (by omega) (by omega) (by simp) List.Pairwise.nil (by simp) (by simp) (fun y hy h=>by have h9:=h0 y hy; exact absurd h (by omega))
 have e : cpt (srt (R.map Race.Name)) = res:=inc_unique _ _ (cpt_inc _ (srt_sorted _)) r3 fun v=>by
  rw [cpt_mem,srt_mem,r4,List.mem_map]
 have h1:=cR_ev R hR
 rw [e] at h1
 exact ⟨res,h1,Ev.of_eq (fun n=>by simp only [ref22_Racy]) r1,r2⟩
end Go.Su.YtepcmciljmennaaGreat
