/-
  HitSum: what its code computes is true, where what it is handed is of no more than 1048576 numbers.
-/
import Derived.Test.YtcadbebhhnggdaaZhDxF2
import Derived.KernelRfl
namespace Go.Su.Ytcadbebhhnggdaa
open Go.Mx Go.Proofs
set_option linter.unusedVariables false
set_option linter.unusedSimpArgs false
set_option maxHeartbeats 4000000
abbrev nr (k : Nat) : Nat:=FloatKind.f64.nearest (k : Int)
theorem nr0 : nr 0 = 0:=by kernel_rfl
theorem nr1 : nr 1 = 4607182418800017408:=by kernel_rfl
theorem cadd_nn (a b c d : Nat) (h1 : a + c < 2 ^ 53) (h2 : b + d < 2 ^ 53) : cadd ⟨nr a,nr b⟩ ⟨nr c,nr d⟩ = some ⟨nr (a + c),nr (b + d)⟩:=by
 have e1:=add_nat a c h1
 have e2:=add_nat b d h2
 unfold cadd
 simp only [e1,e2,Option.bind_some]
theorem roomI (a b : Nat) (h : a + b ≤ 10000000) : room s_int.i1.bytes a b = true:=room_of (by
 have : s_int.i1.bytes = 8:=rfl
 rw [this]; omega)
theorem roomK (a b : Nat) (h : a + b ≤ 1000) : room s_Cand.i1.bytes a b = true:=room_of (by
 have : s_Cand.i1.bytes ≤ 1000:=by decide
 have:=Nat.mul_le_mul h this
 omega)
def CK (c : List Cand) : Prop:=∀ x ∈ c,∃ k : Nat,k ≤ 5 ∧ x.Cost = ⟨nr k,nr 1⟩
theorem shl_step (i : Nat) (h : i < 4) : ∃ p,ishl .i64 1 (IntKind.u64.wrap (i : Int)) = some p ∧ (p == 0) = false:=by
 match i,h with
 | 0,_=>exact ⟨1,by kernel_rfl,rfl⟩
 | 1,_=>exact ⟨2,by kernel_rfl,rfl⟩
 | 2,_=>exact ⟨4,by kernel_rfl,rfl⟩
 | 3,_=>exact ⟨8,by kernel_rfl,rfl⟩
 | j + 4,h=>exact absurd h (by omega)
theorem some_L1 (a0 : List Int) (l1 : List Cand) (i2 : Nat) (b3 : Bool) (x5 x6 : Int) (k : Nat) (hk : k ≤ 5) (hi : i2 < a0.length) (h9 : l1.length ≤ 9) (hc : CK l1) (P : List Cand → Prop)
  (hend : ∀ l8 : List Int,∃ c,Ev (fun n=>law24_some_L0 n a0 (l1 ++ [⟨(x5.tmod 2) == 0,l8,⟨FloatKind.f64.nearest (k : Int),4607182418800017408⟩⟩]) (wr ((i2 : Int) + 1))) c ∧ P c) : ∀ (m i : Nat) (l8 : List Int),4 - i ≤ m → i ≤ 4 → l8.length ≤ i →
  ∃ c,Ev (fun n=>law24_some_L1 n a0 l1 (i2 : Int) b3 x5 x6 (k : Int) l8 (i : Int)) c ∧ P c
 | 0,i,l8,hm,h4,hl=>by
  have d1 : decide ((i : Int) < 4) = false:=decide_eq_false (by omega)
  obtain ⟨c,h1,h2⟩:=hend l8
  refine ⟨c,Ev.step (Ev.of_eq (fun n=>?_) h1),h2⟩
  simp only [law24_some_L1,d1,cond_false,roomK l1.length _ (show l1.length + [(Cand.mk ((x5.tmod 2) == 0) l8 (⟨FloatKind.f64.nearest (k : Int),4607182418800017408⟩ : Cx))].length ≤ 1000 by simp; omega),cond_true]
 | m + 1,i,l8,hm,h4,hl=>by
  by_cases hlt : i < 4
  ·have d1 : decide ((i : Int) < 4) = true:=decide_eq_true (by omega)
   have e3 : wr ((i : Int) + 1) = ((i + 1 : Nat) : Int):=by rw [wr_of (by omega)]; rfl
   obtain ⟨p,g1,g2⟩:=shl_step i hlt
   have g : idx a0 (i2 : Int) = some a0[i2]:=idx_of (by omega) (by rw [Int.toNat_natCast]; exact List.getElem?_eq_getElem hi)
   have pk : ∀ n,hand_Pick n (wr (a0[i2].tdiv 16)) 16 = some (wr (a0[i2].tdiv 16) % 16):=fun n=>pick_eq n _ 16 (by omega) (by omega)
   cases c1 : (((wr ((wr (a0[i2].tdiv 16) % 16).tdiv p)).tmod 2) == 1)
   ·obtain ⟨c,h1,h2⟩:=some_L1 a0 l1 i2 b3 x5 x6 k hk hi h9 hc P hend m (i + 1) l8 (by omega) (by omega) (by omega)
    exact ⟨c,Ev.step (Ev.of_eq (fun n=>by simp only [law24_some_L1,d1,cond_true,jn,g,Option.bind_some,pk,g1,g2,c1,cond_false,e3]) h1),h2⟩
   ·obtain ⟨c,h1,h2⟩:=some_L1 a0 l1 i2 b3 x5 x6 k hk hi h9 hc P hend m (i + 1) (l8 ++ [wr (2 * (i : Int))]) (by omega) (by omega) (by simp; omega)
    have rm : room s_int.i1.bytes l8.length [wr (2 * (i : Int))].length = true:=roomI _ _ (by simp; omega)
    exact ⟨c,Ev.step (Ev.of_eq (fun n=>by simp only [law24_some_L1,d1,cond_true,jn,g,Option.bind_some,pk,g1,g2,c1,cond_false,e3,rm]) h1),h2⟩
  ·exact some_L1 a0 l1 i2 b3 x5 x6 k hk hi h9 hc P hend m i l8 (by omega) h4 hl
theorem some_L0 (a0 : List Int) : ∀ (m i : Nat) (l1 : List Cand),9 - i ≤ m → i ≤ 9 → l1.length ≤ i → CK l1 → ∃ c,Ev (fun n=>law24_some_L0 n a0 l1 (i : Int)) c ∧ (CK c ∧ c.length ≤ 9)
 | m,i,l1,hm,h9,hl,hc=>by
  have stop : (decide ((i : Int) < ln a0) && decide ((i : Int) < 9)) = false → ∃ c,Ev (fun n=>law24_some_L0 n a0 l1 (i : Int)) c ∧ (CK c ∧ c.length ≤ 9):=by
   intro hs
   refine ⟨l1,Ev.step (Ev.of_eq (g:=fun n=>some l1) (fun n=>?_) (Ev.ret _)),hc,by omega⟩
   cases d1 : decide ((i : Int) < ln a0)
   ·simp only [law24_some_L0,jn,d1,cond_false]
   ·rw [d1,Bool.true_and] at hs
    simp only [law24_some_L0,jn,d1,cond_true,hs,cond_false]
  by_cases hlt : i < 9
  ·by_cases hia : i < a0.length
   ·match m,hm with
    | 0,hm=>exact absurd hm (by omega)
    | m + 1,hm =>
     have d1 : decide ((i : Int) < ln a0) = true:=decide_eq_true (by show (i : Int) < ((a0.length : Nat) : Int); omega)
     have d2 : decide ((i : Int) < 9) = true:=decide_eq_true (by omega)
     have e3 : wr ((i : Int) + 1) = ((i + 1 : Nat) : Int):=by rw [wr_of (by omega)]; rfl
     have g : idx a0 (i : Int) = some a0[i]:=idx_of (by omega) (by rw [Int.toNat_natCast]; exact List.getElem?_eq_getElem hia)
     have pk : ∀ n,hand_Pick n (wr (a0[i].tdiv 2)) 6 = some (wr (a0[i].tdiv 2) % 6):=fun n=>pick_eq n _ 6 (by omega) (by omega)
     obtain ⟨k,hk⟩ : ∃ k : Nat,wr (a0[i].tdiv 2) % 6 = (k : Int):=⟨(wr (a0[i].tdiv 2) % 6).toNat,by omega⟩
     have hk5 : k ≤ 5:=by omega
     obtain ⟨c,h1,h2⟩:=some_L1 a0 l1 i true a0[i] a0[i] k hk5 hia (by omega) hc (fun c=>CK c ∧ c.length ≤ 9) (fun l8=>by
      rw [e3]
      refine some_L0 a0 m (i + 1) _ (by omega) (by omega) (by simp; omega) (fun x hx=>?_)
      rcases List.mem_append.1 hx with hx | hx
      ·exact hc x hx
      ·rw [List.mem_singleton] at hx
       subst hx
       exact ⟨k,hk5,by rw [nr1]⟩) 4 0 [] (by omega) (by omega) (by simp)
     refine ⟨c,Ev.step (Ev.of_eq (fun n=>?_) h1),h2⟩
     simp only [law24_some_L0,jn,d1,d2,cond_true,g,Option.bind_some,pk,hk]
     rfl
   ·exact stop (by rw [decide_eq_false (show ¬ (i : Int) < ln a0 by show ¬ (i : Int) < ((a0.length : Nat) : Int); omega)]; rfl)
  ·exact stop (by rw [decide_eq_false (show ¬ (i : Int) < 9 by omega),Bool.and_false])
def CN (c : List Cand) (K : List Nat) : Prop:=∀ (i : Nat) (y : Cand),c[i]? = some y → K.getD i 0 ≤ 5 ∧ y.Cost = ⟨nr (K.getD i 0),nr 1⟩
theorem exK : ∀ c : List Cand,CK c → ∃ K,CN c K
 | [],_=>⟨[],fun i y h=>by simp at h⟩
 | x :: r,h=>by
  obtain ⟨K,hK⟩:=exK r fun y hy=>h y (by simp [hy])
  obtain ⟨k,h1,h2⟩:=h x (by simp)
  refine ⟨k :: K,fun i y hy=>?_⟩
  match i,hy with
  | 0,hy =>
   have : x = y:=by simpa using hy
   subst this
   exact ⟨h1,h2⟩
  | i + 1,hy=>simpa using hK i y (by simpa using hy)
def cst (K : List Nat) (x : Int) : Nat:=K.getD x.toNat 0
def isC (c : List Cand) (x : Int) : Bool:=decide (x ≥ 0) && decide (x < ln c)
def tot (c : List Cand) (K : List Nat) : List Int → Nat × Nat
 | []=>(0,0)
 | x :: r=>bif isC c x then (cst K x + (tot c K r).1,1 + (tot c K r).2) else tot c K r
theorem cst_ok (c : List Cand) (K : List Nat) (hc : CN c K) (x : Int) (h : isC c x = true) : cst K x ≤ 5 ∧ ∃ y,idx c x = some y ∧ y.Cost = ⟨nr (cst K x),nr 1⟩:=by
 unfold isC at h
 simp only [Bool.and_eq_true,decide_eq_true_eq] at h
 obtain ⟨h1,h2⟩:=h
 have hl : x.toNat < c.length:=by
  have : x < ((c.length : Nat) : Int):=h2
  omega
 have g : idx c x = some c[x.toNat]:=idx_of h1 (List.getElem?_eq_getElem hl)
 obtain ⟨h3,h4⟩:=hc _ _ (List.getElem?_eq_getElem hl)
 exact ⟨h3,_,g,h4⟩
theorem tot_bd (c : List Cand) (K : List Nat) (hc : CN c K) : ∀ l,(tot c K l).1 ≤ 5 * l.length ∧ (tot c K l).2 ≤ l.length
 | []=>by simp [tot]
 | x :: r=>by
  have ih:=tot_bd c K hc r
  rw [tot,List.length_cons]
  cases h : isC c x
  ·simp only [cond_false]; omega
  ·have:=(cst_ok c K hc x h).1
   simp only [cond_true]; omega
theorem tot_app (c : List Cand) (K : List Nat) : ∀ a b,tot c K (a ++ b) = ((tot c K a).1 + (tot c K b).1,(tot c K a).2 + (tot c K b).2)
 | [],b=>by simp [tot]
 | x :: r,b=>by
  rw [List.cons_append,tot,tot,tot_app c K r b]
  cases isC c x
  ·rfl
  ·simp only [cond_true,Nat.add_assoc]
theorem tot_rev (c : List Cand) (K : List Nat) : ∀ l,tot c K l.reverse = tot c K l
 | []=>rfl
 | x :: r=>by
  rw [List.reverse_cons,tot_app,tot_rev c K r,tot,tot,tot]
  cases isC c x
  ·rfl
  ·simp only [cond_true]
   exact Prod.ext (by simp; omega) (by simp; omega)
theorem Total_L0 (c : List Cand) (K : List Nat) (hc : CN c K) (S : List Int) (hS : S.length ≤ 10000000) : ∀ (l pre : List Int) (a b : Nat),S = pre ++ l → a ≤ 5 * pre.length → b ≤ pre.length →
  Ev (fun n=>hit_Total_L0 n c S ⟨nr a,nr b⟩ pre.length) ⟨nr (a + (tot c K l).1),nr (b + (tot c K l).2)⟩
 | [],pre,a,b,e,ha,hb=>by
  rw [List.append_nil] at e
  subst e
  exact Ev.step (Ev.of_eq (g:=fun n=>some ⟨nr a,nr b⟩) (fun n=>by simp only [hit_Total_L0,ix_ge,cond_false]) (by simpa [tot] using Ev.ret _))
 | x :: r,pre,a,b,e,ha,hb=>by
  have hp : pre.length + 1 ≤ 10000000:=by rw [e] at hS; simp at hS; omega
  have d : decide ((pre.length : Int) < ln S) = true:=by rw [e]; exact ix_lt _ _ _
  have g : idx S (pre.length : Int) = some x:=by rw [e]; exact ix_get _ _ _
  rw [tot]
  cases h : isC c x
  ·have nx:=Total_L0 c K hc S hS r (pre ++ [x]) a b (by rw [e]; exact ix_cons _ _ _) (by simp; omega) (by simp; omega)
   refine Ev.step (Ev.of_eq (fun n=>?_) nx)
   unfold isC at h
   cases h1 : decide (x ≥ 0)
   ·simp only [hit_Total_L0,d,cond_true,jn,g,Option.bind_some,h1,cond_false]
    rw [ix_wr pre x (by omega)]
   ·rw [h1,Bool.true_and] at h
    simp only [hit_Total_L0,d,cond_true,jn,g,Option.bind_some,h1,h,cond_false]
    rw [ix_wr pre x (by omega)]
  ·obtain ⟨h5,y,hy,hcost⟩:=cst_ok c K hc x h
   have ad:=cadd_nn a b (cst K x) 1 (by omega) (by omega)
   have nx:=Total_L0 c K hc S hS r (pre ++ [x]) (a + cst K x) (b + 1) (by rw [e]; exact ix_cons _ _ _) (by simp; omega) (by simp; omega)
   simp only [cond_true]
   rw [← Nat.add_assoc,← Nat.add_assoc]
   refine Ev.step (Ev.of_eq (fun n=>?_) nx)
   unfold isC at h
   simp only [Bool.and_eq_true] at h
   simp only [hit_Total_L0,d,cond_true,jn,g,Option.bind_some,h.1,h.2,hy,hcost,ad]
   rw [ix_wr pre x (by omega)]
theorem Total_ev (c : List Cand) (K : List Nat) (hc : CN c K) (S : List Int) (hS : S.length ≤ 10000000) : Ev (fun n=>hit_Total n c S) ⟨nr (tot c K S).1,nr (tot c K S).2⟩:=by
 have:=Total_L0 c K hc S hS S [] 0 0 rfl (by simp) (by simp)
 rw [Nat.zero_add,Nat.zero_add] at this
 refine Ev.of_eq (fun n=>?_) this
 rw [nr0]; rfl
def pk10 (l : List Int) : List Int:=l.map fun x=>x % 10
theorem law24_HitSum_true (a0 a1 a2 : List Int) (b1 : a1.length ≤ 1048576) (b2 : a2.length ≤ 1048576) : ∃ n,law24_HitSum n a0 a1 a2 = some true:=by
 obtain ⟨c,h1,hc,_⟩:=some_L0 a0 9 0 [] (by omega) (by omega) (by simp) (fun x hx=>by simp at hx)
 obtain ⟨K,hc⟩:=exK c hc
 have hsome : Ev (fun n=>law24_some n a0) c:=Ev.of_eq (fun n=>by simp only [law24_some]; rfl) h1
 have pk : ∀ n x,hand_Pick n x 10 = some (x % 10):=fun n x=>pick_eq n x 10 (by omega) (by omega)
 have second : ∀ (i4 : Int) (l pre : List Int),a2 = pre ++ l → Ev (fun n=>law24_HitSum_L1 n a0 a1 a2 c (pk10 a1) (pk10 a1) i4 (pk10 pre) ((pk10 pre).reverse ++ pk10 a1) pre.length) true:=by
  intro i4 l
  induction l with
  | nil =>
   intro pre e
   rw [List.append_nil] at e
   subst e
   have l1 : (pk10 a1).length = a1.length:=by simp [pk10]
   have l2 : (pk10 a2).length = a2.length:=by simp [pk10]
   have t1:=Total_ev c K hc (pk10 a1) (by omega)
   have t2:=Total_ev c K hc (pk10 a2) (by omega)
   have t3:=Total_ev c K hc ((pk10 a2).reverse ++ pk10 a1) (by simp; omega)
   have d1:=tot_bd c K hc (pk10 a1)
   have d2:=tot_bd c K hc (pk10 a2)
   rw [tot_app,tot_rev] at t3
   have ad:=cadd_nn (tot c K (pk10 a1)).1 (tot c K (pk10 a1)).2 (tot c K (pk10 a2)).1 (tot c K (pk10 a2)).2 (by omega) (by omega)
   rw [Nat.add_comm (tot c K (pk10 a2)).1,Nat.add_comm (tot c K (pk10 a2)).2] at t3
   have o1:=ord_self ((tot c K (pk10 a1)).1 + (tot c K (pk10 a2)).1) (by omega)
   have o2:=ord_self ((tot c K (pk10 a1)).2 + (tot c K (pk10 a2)).2) (by omega)
   refine Ev.step (Ev.of_eq (g:=fun n=>(hit_Total n c (pk10 a1)).bind fun r18=>(hit_Total n c (pk10 a2)).bind fun r19=>(cadd r18 r19).bind fun z20=>(hit_Total n c ((pk10 a2).reverse ++ pk10 a1)).bind fun r21=>some ((FloatKind.f64.format.order z20.re r21.re == some .eq) && (FloatKind.f64.format.order z20.im r21.im == some .eq))) (fun n=>?_) (Ev.bind t1 (Ev.bind t2 (Ev.opt ad (Ev.bind t3 ?_)))))
   ·simp only [law24_HitSum_L1,ix_ge,cond_false]
   ·rw [show ((FloatKind.f64.format.order (nr ((tot c K (pk10 a1)).1 + (tot c K (pk10 a2)).1)) (nr ((tot c K (pk10 a1)).1 + (tot c K (pk10 a2)).1)) == some .eq) && (FloatKind.f64.format.order (nr ((tot c K (pk10 a1)).2 + (tot c K (pk10 a2)).2)) (nr ((tot c K (pk10 a1)).2 + (tot c K (pk10 a2)).2)) == some .eq)) = true by rw [o1,o2]; rfl]
    exact Ev.ret _
  | cons x r ih =>
   intro pre e
   have hp : pre.length + 1 ≤ 1048576:=by rw [e] at b2; simp at b2; omega
   have d : decide ((pre.length : Int) < ln a2) = true:=by rw [e]; exact ix_lt _ _ _
   have g : idx a2 (pre.length : Int) = some x:=by rw [e]; exact ix_get _ _ _
   have r1 : room s_int.i1.bytes (pk10 pre).length [x % 10].length = true:=roomI _ _ (by simp [pk10]; omega)
   have r2 : room s_int.i1.bytes [x % 10].length ((pk10 pre).reverse ++ pk10 a1).length = true:=roomI _ _ (by simp [pk10]; omega)
   have nx:=ih (pre ++ [x]) (by rw [e]; exact ix_cons _ _ _)
   have e1 : pk10 (pre ++ [x]) = pk10 pre ++ [x % 10]:=by simp [pk10]
   rw [e1,List.reverse_append] at nx
   refine Ev.step (Ev.of_eq (fun n=>?_) nx)
   simp only [law24_HitSum_L1,d,cond_true,g,Option.bind_some,pk,r1,r2]
   rw [ix_wr pre x (by omega)]; simp
 have first : ∀ (l pre : List Int),a1 = pre ++ l → Ev (fun n=>law24_HitSum_L0 n a0 a1 a2 c (pk10 pre) (pk10 pre) pre.length) true:=by
  intro l
  induction l with
  | nil =>
   intro pre e
   rw [List.append_nil] at e
   subst e
   refine Ev.step (Ev.of_eq (fun n=>?_) (second ((a1.length : Nat) : Int) a2 [] rfl))
   simp only [law24_HitSum_L0,ix_ge,cond_false]; rfl
  | cons x r ih =>
   intro pre e
   have hp : pre.length + 1 ≤ 1048576:=by rw [e] at b1; simp at b1; omega
   have d : decide ((pre.length : Int) < ln a1) = true:=by rw [e]; exact ix_lt _ _ _
   have g : idx a1 (pre.length : Int) = some x:=by rw [e]; exact ix_get _ _ _
   have r1 : room s_int.i1.bytes (pk10 pre).length [x % 10].length = true:=roomI _ _ (by simp [pk10]; omega)
   have nx:=ih (pre ++ [x]) (by rw [e]; exact ix_cons _ _ _)
   have e1 : pk10 (pre ++ [x]) = pk10 pre ++ [x % 10]:=by simp [pk10]
   rw [e1] at nx
   refine Ev.step (Ev.of_eq (fun n=>?_) nx)
   simp only [law24_HitSum_L0,d,cond_true,g,Option.bind_some,pk,r1]
   rw [ix_wr pre x (by omega)]
 refine Ev.get ?_
 exact Ev.of_eq (g:=fun n=>(law24_some n a0).bind fun r1=>law24_HitSum_L0 n a0 a1 a2 r1 [] [] 0) (fun n=>by simp only [law24_HitSum]) (Ev.bind hsome (first a1 [] rfl))
end Go.Su.Ytcadbebhhnggdaa
