/-
  CandsTells: what its code computes is true.
-/
import Derived.Test.YtepcmciljmennaaGreatZtPlRacyT
import Derived.Test.YtepcmciljmennaaGreatZtDxF2
import Derived.Test.YtepcmciljmennaaGreatZtRowT
namespace Go.Su.YtepcmciljmennaaGreat
open Go.Mx Go.Proofs
set_option linter.unusedVariables false
set_option linter.unusedSimpArgs false
set_option maxHeartbeats 4000000
theorem same23_L0 : ∀ (l pre : List Int),(pre ++ l).length ≤ 4000000 → Ev (fun n=>law23_same_L0 n (pre ++ l) (pre ++ l) pre.length) true
 | [],pre,h=>Ev.step (Ev.of_eq (g:=fun n=>some true) (fun n=>by simp only [law23_same_L0,List.append_nil,ix_ge,cond_false]) (Ev.ret _))
 | x :: r,pre,h=>by
  have hp : pre.length + 1 ≤ 4000000:=by simp at h; omega
  have b : (x != x) = false:=by simp
  refine Ev.step (Ev.of_eq (fun n=>?_) (same23_L0 r (pre ++ [x]) (by rw [← ix_cons]; exact h)))
  simp only [law23_same_L0,ix_lt,ix_get,cond_true,Option.bind_some,b,cond_false]
  rw [ix_wr pre x (by omega),← ix_cons]
theorem same23_ev (l : List Int) (h : l.length ≤ 4000000) : Ev (fun n=>law23_same n l l) true:=by
 have b : (ln l != ln l) = false:=by simp
 exact Ev.of_eq (fun n=>by simp only [law23_same,b,cond_false]; rfl) (same23_L0 l [] (by simpa using h))
set_option maxRecDepth 1000000 in
theorem known23_ev : Ev (fun n=>law23_known n) true:=by
 refine ⟨200,fun n hn=>?_⟩
 obtain ⟨k,rfl⟩ : ∃ k,n = k + 200:=⟨n - 200,by omega⟩
 have : ∀ k,law23_known (k + 200) = some true:=by intro k; kernel_rfl
 exact this k
theorem ord_11 : (FloatKind.f64.format.order 4607182418800017408 4607182418800017408 == some .eq) = true:=by kernel_rfl
def CO (c : Cand) : Prop:=c.Names.length ≤ 8 ∧ ∃ g : Nat,g ≤ 86093442000000 ∧ c.Cost = ⟨FloatKind.f64.nearest (g : Int),4607182418800017408⟩
section
variable (a0 : Int) (a1 a2 a3 : List Act) (a4 : Int) (a5 : List Int) (r1 : ByteArray) (p : Prog) (r3 : Int) (r4 : List Int)
theorem ct_L1 (ha : a5.length ≤ 1048576) (h64 : okInts a5) (C : List Cand) (b7 : Bool) (i10 : Int) : ∀ (l pre : List Int) (R : List Race),a5 = pre ++ l → R.length = pre.length → (∀ y ∈ R,0 ≤ y.Name) → (∀ y ∈ R,y.Name ≤ 23) → Ev (fun n=>law23_CandsTells_L1 n a0 a1 a2 a3 a4 a5 r1 p r3 r4 C C b7 i10 R pre.length) true
 | [],pre,R,e,hl,h0,h23=>by
  rw [List.append_nil] at e
  subst e
  obtain ⟨s,s1,s2,s3⟩:=racy_same R (by omega) h0 h23
  refine Ev.step (Ev.of_eq (g:=fun n=>(cands_Racy n R).bind fun r25=>(ref22_Racy n R).bind fun r26=>(law23_same n r25 r26).bind fun r27=>some r27) (fun n=>?_) (Ev.bind s1 (Ev.bind s2 (Ev.bind (same23_ev s (by omega)) (Ev.ret _)))))
  simp only [law23_CandsTells_L1,ix_ge,cond_false]
 | x :: r,pre,R,e,hl,h0,h23=>by
  have hp : pre.length + 1 ≤ 1048576:=by rw [e] at ha; simp at ha; omega
  have d1 : decide ((pre.length : Int) < ln a5) = true:=by rw [e]; exact ix_lt _ _ _
  have g1 : idx a5 (pre.length : Int) = some x:=by rw [e]; exact ix_get _ _ _
  have w:=ix_wr pre x (by omega)
  have pe : ∀ n,hand_Pick n x 24 = some (x % 24):=fun n=>pick_eq n _ 24 (by omega) (by omega)
  have rm : ∀ q : Race,room s_Race.i1.bytes R.length [q].length = true:=fun q=>room_of (by
   have : s_Race.i1.bytes ≤ 1000:=by decide
   have h2 : R.length + [q].length ≤ 2000000:=by simp; omega
   have:=Nat.mul_le_mul h2 this
   omega)
  have nx:=ct_L1 ha h64 C b7 i10 r (pre ++ [x]) (R ++ [⟨(pre.length : Int),wr ((pre.length : Int) + 1),x % 24,[]⟩]) (by rw [e]; exact ix_cons _ _ _) (by simp; omega)
   (fun y hy=>by
    rcases List.mem_append.1 hy with hy | hy
    ·exact h0 y hy
    ·have : y.Name = x % 24:=by
      have : y = ⟨(pre.length : Int),wr ((pre.length : Int) + 1),x % 24,[]⟩:=by simpa using hy
      rw [this]
     omega)
   (fun y hy=>by
    rcases List.mem_append.1 hy with hy | hy
    ·exact h23 y hy
    ·have : y.Name = x % 24:=by
      have : y = ⟨(pre.length : Int),wr ((pre.length : Int) + 1),x % 24,[]⟩:=by simpa using hy
      rw [this]
     omega)
  refine Ev.step (Ev.of_eq (fun n=>?_) nx)
  simp only [law23_CandsTells_L1,d1,g1,pe,rm,cond_true,Option.bind_some]
  rw [w]
theorem ct_L0 (ha : a5.length ≤ 1048576) (h64 : okInts a5) (C : List Cand) (b7 : Bool) (hC : C.length ≤ 1000) (hok : ∀ c ∈ C,CO c) : ∀ l pre : List Cand,C = pre ++ l → Ev (fun n=>law23_CandsTells_L0 n a0 a1 a2 a3 a4 a5 r1 p r3 r4 C C b7 pre.length) true
 | [],pre,e=>by
  rw [List.append_nil] at e
  subst e
  exact Ev.step (Ev.of_eq (g:=fun n=>law23_CandsTells_L1 n a0 a1 a2 a3 a4 a5 r1 p r3 r4 C C b7 (C.length : Int) ([] : List Race) 0) (fun n=>by simp only [law23_CandsTells_L0,ix_ge,cond_false]) (ct_L1 a0 a1 a2 a3 a4 a5 r1 p r3 r4 ha h64 C b7 (C.length : Int) a5 [] [] rfl rfl (by simp) (by simp)))
 | c :: l,pre,e=>by
  have hp : pre.length + 1 ≤ 1000:=by rw [e] at hC; simp at hC; omega
  have d1 : decide ((pre.length : Int) < ln C) = true:=by rw [e]; exact ix_lt _ _ _
  have g1 : idx C (pre.length : Int) = some c:=by rw [e]; exact ix_get _ _ _
  have w:=ix_wr pre c (by omega)
  obtain ⟨h8,g,hg,hcost⟩:=hok c (by rw [e]; simp)
  have o1:=ord_self g (by omega)
  have ge : (c.Guard == c.Guard) = true:=by simp
  have nx:=ct_L0 ha h64 C b7 hC hok l (pre ++ [c]) (by rw [e]; exact ix_cons _ _ _)
  refine Ev.step (Ev.of_eq (g:=fun n=>(law23_same n c.Names c.Names).bind fun r17=>bif !r17 then some false else law23_CandsTells_L0 n a0 a1 a2 a3 a4 a5 r1 p r3 r4 C C b7 ((pre ++ [c]).length)) (fun n=>?_) (Ev.bind (same23_ev c.Names (by omega)) (Ev.no rfl nx)))
  simp only [law23_CandsTells_L0,d1,g1,jn,ge,w,hcost,o1,ord_11,cond_true,cond_false,Option.bind_some,Bool.not_true,Bool.and_self]
end
theorem law23_CandsTells_true (a0 : Int) (a1 a2 a3 : List Act) (a4 : Int) (a5 : List Int) (h0 : okInt .i64 a0) (h1 : okActs a1) (h2 : okActs a2) (h3 : okActs a3) (h4 : okInt .i64 a4) (h5 : okInts a5) (hs : a5.length ≤ 1048576) : ∃ n,law23_CandsTells n a0 a1 a2 a3 a4 a5 = some true:=by
 obtain ⟨w,hw⟩:=Good_ev a0 a1 a2 a3 4 (by omega)
 obtain ⟨⟨D,ts⟩,i,e,hpar,ok1⟩:=parse_ev w
 obtain ⟨okD,okn,okz,okw⟩:=ok1
 simp only at okD okn okz okw
 have hread : Ev (fun n=>law23_read n w) ⟨D,ts⟩:=Ev.of_eq (g:=fun n=>(ref1_Parse n w).bind fun r1=>some r1.1) (fun n=>by simp only [law23_read]) (Ev.bind hpar (Ev.ret _))
 have p4 : ∀ n,hand_Pick n a4 256 = some (a4 % 256):=fun n=>pick_eq n _ 256 (by omega) (by omega)
 have hr:=racy_ev D ts (a4 % 256) okD.1
 have r8:=rcy_len (a4 % 256) (by omega) (by omega) D 0
 have hi : InD D (rcy (a4 % 256) D 0):=fun v hv=>by
  obtain ⟨j,d,h1,h2,_⟩:=rcy_mem (a4 % 256) D 0 v hv
  exact ⟨j,by rw [h1,Nat.zero_add],(List.getElem?_eq_some_iff.1 h2).1⟩
 generalize rcy (a4 % 256) D 0 = r at hr r8 hi
 obtain ⟨kg,ku,hC⟩:=costs_ev D ts okz okw
 have c1:=Of_ev hC r (by omega) hi
 have c2:=rC_ev hC r (by omega) hi
 obtain ⟨o1,o2⟩:=sts_ok r (by omega)
 have hCO : ∀ c ∈ (r.filter (pln D)).map (uc ku) ++ (sts r).map (gc kg),CO c:=fun c hc=>by
  rcases List.mem_append.1 hc with hc | hc
  ·obtain ⟨v,hv,rfl⟩:=List.mem_map.1 hc
   exact ⟨by simp [uc],hC.unum v (hi v (List.mem_filter.1 hv).1)⟩
  ·obtain ⟨s,hs,rfl⟩:=List.mem_map.1 hc
   exact ⟨(o2 s hs).1,hC.gnum s ⟨fun v hv=>hi v ((o2 s hs).2 v hv),(o2 s hs).1⟩⟩
 have hlen : ((r.filter (pln D)).map (uc ku) ++ (sts r).map (gc kg)).length ≤ 1000:=by
  have:=List.length_filter_le (pln D) r
  rw [List.length_append,List.length_map,List.length_map]; omega
 generalize (r.filter (pln D)).map (uc ku) ++ (sts r).map (gc kg) = C at c1 c2 hCO hlen
 have b0 : (ln C != ln C) = false:=by simp
 refine Ev.get ?_
 refine Ev.of_eq (g:=fun n=>(hand_Good n a0 a1 a2 a3 4).bind fun r1=>(law23_read n r1).bind fun r2=>(law23_racy n r2 (a4 % 256)).bind fun r4=>(cands_Of n r2 r4).bind fun r5=>(ref22_Cands n r2 r4).bind fun r6=>(law23_known n).bind fun r9=>bif !r9 then some false else bif (ln r5 != ln r6) then some false else law23_CandsTells_L0 n a0 a1 a2 a3 a4 a5 r1 r2 (a4 % 256) r4 r5 r6 false 0) (fun n=>?_) ?_
 ·simp only [law23_CandsTells,p4,Option.bind_some,jn]
  congr 1; funext r1
  congr 1; funext r2
  congr 1; funext r4
  congr 1; funext r5
  congr 1; funext r6
  congr 1; funext r9
  cases r9
  ·rfl
  ·cases (ln r5 != ln r6) <;> rfl
 ·exact Ev.bind hw (Ev.bind hread (Ev.bind hr (Ev.bind c1 (Ev.bind c2 (Ev.bind known23_ev (Ev.no rfl (Ev.no b0 (ct_L0 a0 a1 a2 a3 a4 a5 w ⟨D,ts⟩ (a4 % 256) r hs h5 C false hlen hCO C [] rfl))))))))
end Go.Su.YtepcmciljmennaaGreat
