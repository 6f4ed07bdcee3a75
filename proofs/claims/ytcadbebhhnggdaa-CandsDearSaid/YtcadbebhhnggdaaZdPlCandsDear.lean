/-
  CandsDear: what its code computes is true.
-/
import Derived.Test.YtcadbebhhnggdaaZdPlNest
import Derived.Test.YtcadbebhhnggdaaZdDxF2
import Derived.Test.YtcadbebhhnggdaaZdRowT
namespace Go.Su.Ytcadbebhhnggdaa
open Go.Mx Go.Proofs Ieee
set_option linter.unusedVariables false
set_option linter.unusedSimpArgs false
set_option maxHeartbeats 4000000
abbrev nr (k : Nat) : Nat:=FloatKind.f64.nearest (k : Int)
theorem nr1 : nr 1 = 4607182418800017408:=by kernel_rfl
theorem cadd_nn (a b c d : Nat) (h1 : a + c < 2 ^ 53) (h2 : b + d < 2 ^ 53) : cadd ⟨nr a,nr b⟩ ⟨nr c,nr d⟩ = some ⟨nr (a + c),nr (b + d)⟩:=by
 have e1:=add_nat a c h1
 have e2:=add_nat b d h2
 unfold cadd
 simp only [e1,e2,Option.bind_some]
theorem ord_le (a b : Nat) (h : a ≤ b) (hb : b < 2 ^ 53) : (FloatKind.f64.format.order (nr a) (nr b) == some .gt) = false:=by
 rw [nr,nr,near_eq,near_eq]
 obtain ⟨m,p,hp,hr,hm,_⟩:=read_nat a (by omega)
 obtain ⟨m',p',hp',hr',hm',_⟩:=read_nat b hb
 have : FloatKind.f64.format.order (double.nearest false a 0) (double.nearest false b 0) ≠ some .gt:=by
  show (double.read _).order (double.read _) ≠ _
  rw [hr,hr']
  simp only [Datum.order,sg_nat,ne_eq,Option.some.injEq]
  have hh : m * 2 ^ (-(p : Int) - min (-(p : Int)) (-(p' : Int))).toNat ≤ m' * 2 ^ (-(p' : Int) - min (-(p : Int)) (-(p' : Int))).toNat:=by
   rw [hm,hm',Nat.mul_assoc,Nat.mul_assoc,← Nat.pow_add,← Nat.pow_add]
   have e : p + (-(p : Int) - min (-(p : Int)) (-(p' : Int))).toNat = p' + (-(p' : Int) - min (-(p : Int)) (-(p' : Int))).toNat:=by omega
   rw [e]
   exact Nat.mul_le_mul_right _ h
  revert hh
  generalize m * 2 ^ (-(p : Int) - min (-(p : Int)) (-(p' : Int))).toNat = x
  generalize m' * 2 ^ (-(p' : Int) - min (-(p : Int)) (-(p' : Int))).toNat = y
  intro hh
  show ¬ compareOfLessAndEq (x : Int) (y : Int) = _
  unfold compareOfLessAndEq
  split
  ·simp
  ·rw [if_pos (by omega)]; simp
 cases e : FloatKind.f64.format.order (double.nearest false a 0) (double.nearest false b 0) with
 | none=>rfl
 | some o=>cases o <;> first | rfl | exact absurd e this
def hasI (s : List Int) (v : Int) : Bool:=s.any fun x=>x == v
theorem has_L0 (v : Int) (s : List Int) (hs : s.length ≤ 1000) : ∀ (l pre : List Int),s = pre ++ l → Ev (fun n=>law23_has_L0 n s v pre.length) (hasI l v)
 | [],pre,e=>by
  rw [List.append_nil] at e
  subst e
  exact Ev.step (Ev.of_eq (g:=fun n=>some false) (fun n=>by simp only [law23_has_L0,ix_ge,cond_false]) (Ev.ret _))
 | x :: r,pre,e=>by
  have hp : pre.length + 1 ≤ 1000:=by rw [e] at hs; simp at hs; omega
  have d1 : decide ((pre.length : Int) < ln s) = true:=by rw [e]; exact ix_lt _ _ _
  have g1 : idx s (pre.length : Int) = some x:=by rw [e]; exact ix_get _ _ _
  have hx : hasI (x :: r) v = ((x == v) || hasI r v):=rfl
  rw [hx]
  cases c : (x == v)
  ·refine Ev.step (Ev.of_eq (fun n=>?_) (has_L0 v s hs r (pre ++ [x]) (by rw [e]; exact ix_cons _ _ _)))
   simp only [law23_has_L0,d1,g1,c,cond_true,cond_false,Option.bind_some]
   rw [ix_wr pre x (by omega)]
  ·refine Ev.step (Ev.of_eq (g:=fun n=>some true) (fun n=>?_) (Ev.ret _))
   simp only [law23_has_L0,d1,g1,c,cond_true,Option.bind_some]
theorem has_ev (s : List Int) (v : Int) (hs : s.length ≤ 1000) : Ev (fun n=>law23_has n s v) (hasI s v) :=
 Ev.of_eq (fun n=>by simp only [law23_has]; rfl) (has_L0 v s hs s [] rfl)
theorem tsum_filter {α : Type} (f : α → Nat) (p : α → Bool) : ∀ l : List α,(∀ s ∈ l,p s = false → f s = 0) → tsum f l = tsum f (l.filter p)
 | [],_=>rfl
 | x :: r,h=>by
  have ih:=tsum_filter f p r fun s hs=>h s (by simp [hs])
  cases c : p x
  ·rw [List.filter_cons_of_neg (by simp [c]),tsum,h x (by simp) c,ih]; omega
  ·rw [List.filter_cons_of_pos (by simp [c]),tsum,tsum,ih]
theorem tsum_map {α β : Type} (f : β → Nat) (g : α → β) : ∀ l : List α,tsum f (l.map g) = tsum (fun x=>f (g x)) l
 | []=>rfl
 | x :: r=>by rw [List.map_cons,tsum,tsum,tsum_map f g r]
theorem tsum_bif {α : Type} (q : α → Bool) (g : α → Nat) : ∀ l : List α,tsum (fun v=>bif q v then g v else 0) l = tsum g (l.filter q)
 | []=>rfl
 | x :: r=>by
  rw [tsum,tsum_bif q g r]
  cases c : q x
  ·rw [List.filter_cons_of_neg (by simp [c])]; simp
  ·rw [List.filter_cons_of_pos (by simp [c]),tsum]; rfl
def one1 (D : List Decl) (ts : List (List Stmt)) (x s : List Int) : Nat:=match s with
 | [v]=>bif hasI x v then gw ts [nm1 D v] else 0
 | _=>0
theorem one1_zero (D : List Decl) (ts : List (List Stmt)) (x : List Int) : ∀ s : List Int,(s.length == 1) = false → one1 D ts x s = 0
 | [],_=>rfl
 | [v],h=>by cases h
 | a :: b :: r,_=>rfl
theorem dear (D : List Decl) (ts : List (List Stmt)) (r : List Int) (ss : List (List Int)) (hok : SetsOk r ss) (x : List Int) (hx : x ∈ ss) : gw ts (x.map (nm1 D)) ≤ tsum (one1 D ts x) ss:=by
 rw [tsum_filter (one1 D ts x) (fun s=>s.length == 1) ss (fun s _ h=>one1_zero D ts x s h),hok.2.1,tsum_map]
 show _ ≤ tsum (fun v=>bif hasI x v then gw ts [nm1 D v] else 0) r
 rw [tsum_bif]
 refine gsum_cover (wgT ts) (fun v=>wrpA (flats ts) [nm1 D v]) (r.filter (hasI x)) _ (wrp_nodup _ _ _ _) fun k hk=>?_
 obtain ⟨w,hw,h1⟩:=wrp_in (flats ts) (nst_flats ts) (x.map (nm1 D)) k hk
 obtain ⟨v,hv,rfl⟩:=List.mem_map.1 hw
 refine ⟨v,List.mem_filter.2 ⟨hok.1 x hx v hv,?_⟩,h1⟩
 unfold hasI
 rw [List.any_eq_true]
 exact ⟨v,hv,by simp⟩
section
variable (a0 : Int) (a1 a2 a3 : List Act) (a4 : Int) (r1 : ByteArray) (p : Prog) (r3 : Int) (r4 : List Int)
theorem cd_ups (C : List Cand) (hC : C.length ≤ 1000) (i6 : Int) (x8 : Cand) (z : Cx) : ∀ (l pre rest : List Cand),C = pre ++ (l ++ rest) → (∀ c ∈ l,c.Guard = false) →
  EvJ (fun n J=>law23_CandsDear_L1 n a0 a1 a2 a3 a4 r1 p r3 r4 C i6 J x8 z ((pre ++ l).length)) () → EvJ (fun n J=>law23_CandsDear_L1 n a0 a1 a2 a3 a4 r1 p r3 r4 C i6 J x8 z pre.length) ()
 | [],pre,rest,e,h,hJ=>by simpa using hJ
 | c :: l,pre,rest,e,h,hJ=>by
  have hp : pre.length + 1 ≤ 1000:=by rw [e] at hC; simp at hC; omega
  have d1 : decide ((pre.length : Int) < ln C) = true:=by rw [e]; exact ix_lt _ _ _
  have g1 : idx C (pre.length : Int) = some c:=by rw [e]; exact ix_get _ _ _
  have hg:=h c (by simp)
  refine EvJ.step (EvJ.of_eq (fun n J=>?_) (cd_ups C hC i6 x8 z l (pre ++ [c]) rest (by rw [e]; simp) (fun y hy=>h y (by simp [hy])) (by simpa using hJ)))
  simp only [law23_CandsDear_L1,d1,g1,hg,jn,cond_true,cond_false,Option.bind_some]
  rw [ix_wr pre c (by omega)]
theorem cd_gs (D : List Decl) (ts : List (List Stmt)) (hz : szT ts ≤ 40000) (hw : ∀ t ∈ ts,wfl 8 t) (ups : List Cand) (ss : List (List Int)) (hu : ups.length ≤ 8) (hs : ss.length ≤ 100) (h8 : ∀ s ∈ ss,s.length ≤ 8) (i6 : Int) (x : List Int) (hx : x.length ≤ 8) :
  ∀ (l pre : List (List Int)) (a b : Nat),ss = pre ++ l → a ≤ 8609344200000 * pre.length → b ≤ pre.length → gw ts (x.map (nm1 D)) ≤ a + tsum (one1 D ts x) l →
   EvJ (fun n J=>law23_CandsDear_L1 n a0 a1 a2 a3 a4 r1 p r3 r4 (ups ++ ss.map (gc D ts)) i6 J (gc D ts x) ⟨nr a,nr b⟩ ((ups.length + pre.length : Nat) : Int)) ()
 | [],pre,a,b,e,ha,hb,hle=>by
  rw [List.append_nil] at e
  subst e
  have d1 : decide (((ups.length + ss.length : Nat) : Int) < ln (ups ++ ss.map (gc D ts))) = false:=decide_eq_false (by
   show ¬ ((ups.length + ss.length : Nat) : Int) < (((ups ++ ss.map (gc D ts)).length : Nat) : Int)
   rw [List.length_append,List.length_map]; omega)
  have o1:=ord_le (gw ts (x.map (nm1 D))) a (by simpa [tsum] using hle) (by omega)
  have o2 : (FloatKind.f64.format.order 4607182418800017408 4607182418800017408 != some .eq) = false:=by
   have:=ord_self 1 (by omega)
   have n1 : FloatKind.f64.nearest ((1 : Nat) : Int) = 4607182418800017408:=nr1
   rw [n1] at this
   rw [eq_of_beq this]; rfl
  refine EvJ.step (EvJ.of_eq (fun n J=>?_) (EvJ.now ()))
  simp only [law23_CandsDear_L1,d1,cond_false,jn,gc,o1,o2]
 | s :: l,pre,a,b,e,ha,hb,hle=>by
  have hp : pre.length + 1 ≤ 100:=by rw [e] at hs; simp at hs; omega
  have d1 : decide (((ups.length + pre.length : Nat) : Int) < ln (ups ++ ss.map (gc D ts))) = true:=decide_eq_true (by
   show ((ups.length + pre.length : Nat) : Int) < (((ups ++ ss.map (gc D ts)).length : Nat) : Int)
   rw [List.length_append,List.length_map,e,List.length_append,List.length_cons]; omega)
  have g1 : idx (ups ++ ss.map (gc D ts)) ((ups.length + pre.length : Nat) : Int) = some (gc D ts s):=idx_of (by omega) (by
   rw [Int.toNat_natCast,List.getElem?_append_right (by omega),Nat.add_sub_cancel_left,e]; simp)
  have w : wr (((ups.length + pre.length : Nat) : Int) + 1) = ((ups.length + (pre ++ [s]).length : Nat) : Int):=by
   rw [wr_of (by omega),List.length_append]; rfl
  have nx:=fun a' b'=>cd_gs D ts hz hw ups ss hu hs h8 i6 x hx l (pre ++ [s]) a' b' (by rw [e]; exact ix_cons _ _ _)
  rw [tsum] at hle
  by_cases h1 : s.length = 1
  ·obtain ⟨v,rfl⟩:=List.length_eq_one_iff.1 h1
   have e1 : (ln [v] == 1) = true:=rfl
   have e2 : idx [v] 0 = some v:=rfl
   have hv:=has_ev x v (by omega)
   cases c : hasI x v
   ·have hl : gw ts (x.map (nm1 D)) ≤ a + tsum (one1 D ts x) l:=by
     have : one1 D ts x [v] = 0:=by simp only [one1,c,cond_false]
     omega
    refine EvJ.step (EvJ.of_eq (fun n J=>?_) (EvJ.bind (h:=fun n=>law23_has n x v) (g:=fun n J r=>bif r then ((cadd ⟨nr a,nr b⟩ (gc D ts [v]).Cost).bind fun z18=>law23_CandsDear_L1 n a0 a1 a2 a3 a4 r1 p r3 r4 (ups ++ ss.map (gc D ts)) i6 J (gc D ts x) z18 ((ups.length + (pre ++ [[v]]).length : Nat) : Int)) else law23_CandsDear_L1 n a0 a1 a2 a3 a4 r1 p r3 r4 (ups ++ ss.map (gc D ts)) i6 J (gc D ts x) ⟨nr a,nr b⟩ ((ups.length + (pre ++ [[v]]).length : Nat) : Int)) hv (by rw [c]; exact nx a b (by simp; omega) (by simp; omega) hl)))
    simp only [law23_CandsDear_L1,d1,g1,jn,gc,e1,e2,cond_true,Option.bind_some,w]
   ·obtain ⟨_,gb⟩:=Guard_ev D ts [nm1 D v] (by simp) hz hw
    have hl : gw ts (x.map (nm1 D)) ≤ (a + gw ts [nm1 D v]) + tsum (one1 D ts x) l:=by
     have : one1 D ts x [v] = gw ts [nm1 D v]:=by simp only [one1,c,cond_true]
     omega
    have ad : cadd ⟨nr a,nr b⟩ (gc D ts [v]).Cost = some ⟨nr (a + gw ts [nm1 D v]),nr (b + 1)⟩:=by
     have:=cadd_nn a b (gw ts [nm1 D v]) 1 (by omega) (by omega)
     rw [nr1] at this
     exact this
    refine EvJ.step (EvJ.of_eq (fun n J=>?_) (EvJ.bind (h:=fun n=>law23_has n x v) (g:=fun n J r=>bif r then ((cadd ⟨nr a,nr b⟩ (gc D ts [v]).Cost).bind fun z18=>law23_CandsDear_L1 n a0 a1 a2 a3 a4 r1 p r3 r4 (ups ++ ss.map (gc D ts)) i6 J (gc D ts x) z18 ((ups.length + (pre ++ [[v]]).length : Nat) : Int)) else law23_CandsDear_L1 n a0 a1 a2 a3 a4 r1 p r3 r4 (ups ++ ss.map (gc D ts)) i6 J (gc D ts x) ⟨nr a,nr b⟩ ((ups.length + (pre ++ [[v]]).length : Nat) : Int)) hv (by rw [c,ad]; exact nx _ _ (by simp; omega) (by simp; omega) hl)))
    simp only [law23_CandsDear_L1,d1,g1,jn,gc,e1,e2,cond_true,Option.bind_some,w]
  ·have e1 : (ln s == 1) = false:=by
    show (((s.length : Nat) : Int) == 1) = false
    exact beq_eq_false_iff_ne.2 (by omega)
   have hl : gw ts (x.map (nm1 D)) ≤ a + tsum (one1 D ts x) l:=by
    have:=one1_zero D ts x s (beq_eq_false_iff_ne.2 h1)
    omega
   refine EvJ.step (EvJ.of_eq (fun n J=>?_) (nx a b (by simp; omega) (by simp; omega) hl))
   simp only [law23_CandsDear_L1,d1,g1,jn,gc,e1,cond_true,cond_false,Option.bind_some,w]
end
set_option maxRecDepth 1000000 in
theorem known23_ev : Ev (fun n=>law23_known n) true:=by
 refine ⟨200,fun n hn=>?_⟩
 obtain ⟨k,rfl⟩ : ∃ k,n = k + 200:=⟨n - 200,by omega⟩
 have : ∀ k,law23_known (k + 200) = some true:=by intro k; kernel_rfl
 exact this k
theorem nr00 : (⟨nr 0,nr 0⟩ : Cx) = c0:=by kernel_rfl
theorem cd_L0 (a0 : Int) (a1 a2 a3 : List Act) (a4 : Int) (r1 : ByteArray) (p : Prog) (r3 : Int) (r4 : List Int) (D : List Decl) (ts : List (List Stmt)) (hz : szT ts ≤ 40000) (hw : ∀ t ∈ ts,wfl 8 t) (ups : List Cand) (ss : List (List Int)) (hu : ups.length ≤ 8) (hug : ∀ c ∈ ups,c.Guard = false) (hok : SetsOk r4 ss) (C : List Cand) (hC : C = ups ++ ss.map (gc D ts)) :
  ∀ (l pre : List Cand),C = pre ++ l → Ev (fun n=>law23_CandsDear_L0 n a0 a1 a2 a3 a4 r1 p r3 r4 C pre.length) true
 | [],pre,e=>by
  rw [List.append_nil] at e
  rw [← e]
  refine Ev.step (Ev.of_eq (g:=fun n=>(law23_known n).bind fun r21=>some r21) (fun n=>?_) (Ev.bind known23_ev (Ev.ret _)))
  simp only [law23_CandsDear_L0,ix_ge,cond_false]
 | c :: l,pre,e=>by
  have hl : C.length ≤ 108:=by rw [hC,List.length_append,List.length_map]; have:=hok.2.2.1; omega
  have hp : pre.length + 1 ≤ 108:=by rw [e] at hl; simp at hl; omega
  have d1 : decide ((pre.length : Int) < ln C) = true:=by rw [e]; exact ix_lt _ _ _
  have g1 : idx C (pre.length : Int) = some c:=by rw [e]; exact ix_get _ _ _
  have nx:=cd_L0 a0 a1 a2 a3 a4 r1 p r3 r4 D ts hz hw ups ss hu hug hok C hC l (pre ++ [c]) (by rw [e]; exact ix_cons _ _ _)
  have w:=ix_wr pre c (by omega)
  have hc : c ∈ ups ++ ss.map (gc D ts):=by rw [← hC,e]; simp
  rcases List.mem_append.1 hc with hc | hc
  ·refine Ev.step (Ev.of_eq (fun n=>?_) nx)
   simp only [law23_CandsDear_L0,d1,g1,jn,hug c hc,w,cond_true,Option.bind_some,Bool.not_false]
  ·obtain ⟨x,hx,rfl⟩:=List.mem_map.1 hc
   have m1:=cd_gs a0 a1 a2 a3 a4 r1 p r3 r4 D ts hz hw ups ss hu hok.2.2.1 hok.2.2.2 (pre.length : Int) x (hok.2.2.2 x hx) ss [] 0 0 rfl (by simp) (by simp) (by rw [Nat.zero_add]; exact dear D ts r4 ss hok x hx)
   have m2:=cd_ups a0 a1 a2 a3 a4 r1 p r3 r4 C (by omega) (pre.length : Int) (gc D ts x) ⟨nr 0,nr 0⟩ ups [] (ss.map (gc D ts)) hC hug (by simpa [hC] using m1)
   rw [nr00] at m2
   obtain ⟨k,hk⟩:=m2
   obtain ⟨k',hk'⟩:=nx
   refine Ev.step ⟨max k k',fun n hn=>?_⟩
   have h1:=hk n (by omega) fun _=>law23_CandsDear_L0 n a0 a1 a2 a3 a4 r1 p r3 r4 C ((pre ++ [gc D ts x]).length)
   have h2:=hk' n (by omega)
   refine Eq.trans ?_ (h1.trans h2)
   have hg : (gc D ts x).Guard = true:=rfl
   simp only [law23_CandsDear_L0,d1,g1,jn,hg,w,cond_true,cond_false,Option.bind_some,Bool.not_true]
   rfl
theorem law23_CandsDear_true (a0 : Int) (a1 a2 a3 : List Act) (a4 : Int) (h0 : okInt .i64 a0) (h1 : okActs a1) (h2 : okActs a2) (h3 : okActs a3) (h4 : okInt .i64 a4) : ∃ n,law23_CandsDear n a0 a1 a2 a3 a4 = some true:=by
 obtain ⟨w,hw⟩:=Good_ev a0 a1 a2 a3 4 (by omega)
 obtain ⟨⟨D,ts⟩,i,e,hpar,ok1⟩:=parse_ev w
 obtain ⟨okD,okn,okz,okw⟩:=ok1
 simp only at okD okn okz okw
 have hread : Ev (fun n=>law23_read n w) ⟨D,ts⟩:=Ev.of_eq (g:=fun n=>(ref1_Parse n w).bind fun r1=>some r1.1) (fun n=>by simp only [law23_read]) (Ev.bind hpar (Ev.ret _))
 have p4 : ∀ n,hand_Pick n a4 256 = some (a4 % 256):=fun n=>pick_eq n _ 256 (by omega) (by omega)
 have hr:=racy_ev D ts (a4 % 256) okD.1
 have r8:=rcy_len (a4 % 256) (by omega) (by omega) D 0
 have hi : InD D (rcy (a4 % 256) D 0):=fun v hv=>by
  obtain ⟨j,d,h1,h2,_⟩:=rcy_mem (a4 % 256) D 0 v hv
  exact ⟨j,by rw [h1,Nat.zero_add],(List.getElem?_eq_some_iff.1 h2).1⟩
 obtain ⟨ss,s1,s2⟩:=sets_ev (rcy (a4 % 256) D 0) (by omega)
 obtain ⟨ups,u1,u2,u3⟩:=Of_ev D ts (rcy (a4 % 256) D 0) ss okz okw (by omega) hi s1 s2
 have hug : ∀ c ∈ ups,c.Guard = false:=fun c hc=>by
  have : (c.Guard,c.Names) ∈ ups.map (fun c=>(c.Guard,c.Names)):=List.mem_map.2 ⟨c,hc,rfl⟩
  rw [u1] at this
  obtain ⟨v,_,hv⟩:=List.mem_map.1 this
  exact (Prod.mk.inj hv).1.symm
 refine Ev.get ?_
 refine Ev.of_eq (g:=fun n=>(hand_Good n a0 a1 a2 a3 4).bind fun r1=>(law23_read n r1).bind fun r2=>(law23_racy n r2 (a4 % 256)).bind fun r4=>(cands_Of n r2 r4).bind fun r5=>law23_CandsDear_L0 n a0 a1 a2 a3 a4 r1 r2 (a4 % 256) r4 r5 0) (fun n=>by simp only [law23_CandsDear,p4,Option.bind_some]) ?_
 exact Ev.bind hw (Ev.bind hread (Ev.bind hr (Ev.bind u3 (cd_L0 a0 a1 a2 a3 a4 w ⟨D,ts⟩ (a4 % 256) _ D ts okz okw ups ss u2 hug s2 _ rfl _ [] rfl))))
end Go.Su.Ytcadbebhhnggdaa
