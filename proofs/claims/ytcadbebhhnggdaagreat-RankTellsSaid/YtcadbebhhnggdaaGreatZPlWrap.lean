/-
  What statements touch names, how many stand within one, which are wrapped: the document's; the two are one.
-/
import Derived.Test.YtcadbebhhnggdaaGreatZPlWrp
namespace Go.Su.YtcadbebhhnggdaaGreat
open Go.Mx Go.Proofs
set_option linter.unusedVariables false
set_option linter.unusedSimpArgs false
set_option maxHeartbeats 4000000
theorem wrapu (x : Nat) (h : x < 4294967296) : IntKind.u64.wrap (x : Int) = x:=by
 simp only [IntKind.wrap,IntKind.bits,IntKind.signed,Bool.false_and,Bool.false_eq_true,if_false]
 omega
theorem mask32 (x : Nat) (h : x < 4294967296) : (BitVec.ofInt 64 (x : Int) &&& BitVec.ofInt 64 4294967295).toNat = x:=by
 have e1 : (BitVec.ofInt 64 (x : Int)).toNat = x:=by
  rw [BitVec.toNat_ofInt]; omega
 have e2 : (BitVec.ofInt 64 4294967295).toNat = 2 ^ 32 - 1:=rfl
 rw [BitVec.toNat_and,e1,e2,Nat.and_two_pow_sub_one_eq_mod]; omega
theorem shr32 (x : Nat) (h : x < 4294967296) : ishr .u64 (x : Int) 32 = some 0:=by
 have e : (x : Int).fdiv (2 ^ min (32 : Int).toNat IntKind.u64.bits) = 0:=by
  have : ((2 : Int) ^ min (32 : Int).toNat IntKind.u64.bits) = 4294967296:=rfl
  rw [this,Int.fdiv_eq_ediv_of_nonneg _ (by omega)]; omega
 unfold ishr
 rw [e]; rfl
theorem mul_ev (n m : Nat) (h : m ≤ 1000000) : math_bits_Mul n (IntKind.u64.wrap (1 : Int)) (IntKind.u64.wrap (m : Int)) = some (0,(m : Int)):=by
 have w1 : IntKind.u64.wrap (1 : Int) = ((1 : Nat) : Int):=rfl
 have wm:=wrapu m (by omega)
 have w0 : IntKind.u64.wrap (0 : Int) = ((0 : Nat) : Int):=rfl
 have m1:=mask32 1 (by omega)
 have mm:=mask32 m (by omega)
 have m0:=mask32 0 (by omega)
 have s1:=shr32 1 (by omega)
 have sm:=shr32 m (by omega)
 have s0:=shr32 0 (by omega)
 rw [w1,wm]
 have z : ((0 : Nat) : Int) = 0:=rfl
 have o : ((1 : Nat) : Int) = 1:=rfl
 have e1 : math_bits_Mul64 n ((1 : Nat) : Int) (m : Int) = some (0,(m : Int)):=by
  unfold math_bits_Mul64
  simp only [s1,sm,Option.bind_some,m1,mm,w1,wm,o,Int.one_mul,Int.zero_mul,Int.add_zero,Int.zero_add,w0,s0,z,m0]
  have:=mask32 0 (by omega)
  simp_all
 unfold math_bits_Mul
 rw [e1]; rfl
theorem rcopy_rep {k : Int} {l : List Int} {i m : Nat} (hl : l.length = m) (ht : l.take i = List.replicate i k) (hi : i ≤ m) : (rcopy l i).take (i + min i (m - i)) = List.replicate (i + min i (m - i)) k ∧ (rcopy l i).length = m:=by
 refine ⟨?_,by rw [rcopy_length,hl]⟩
 unfold rcopy lov
 rw [ht,hl]
 have h1 : (List.replicate i k).take (min i (m - i)) = List.replicate (min i (m - i)) k:=by rw [List.take_replicate]; congr 1; omega
 rw [h1]
 rw [← List.replicate_append_replicate,List.take_append_of_le_length (by simp),List.take_of_length_le (by simp)]
theorem repeat_L0 (k : Int) (a1 : Int) (r1 : Int × Int) (b2 : Bool) (m : Nat) (hm : m ≤ 1000000) : ∀ (j i : Nat) (l : List Int),m - i ≤ j → l.length = m → l.take i = List.replicate i k → 1 ≤ i → i ≤ m →
  Ev (fun n=>Repeat_int_L0 n [k] a1 r1 b2 l (i : Int)) (List.replicate m k):=by
 intro j
 induction j with
 | zero =>
  intro i l hj hl ht h1 hi
  have : i = m:=by omega
  subst this
  have e : l = List.replicate i k:=by rw [← ht,List.take_of_length_le (by omega)]
  refine Ev.step (Ev.of_eq (g:=fun n=>some l) (fun n=>?_) (by rw [e]; exact Ev.ret _))
  have l1 : decide ((i : Int) < ln l) = false:=decide_eq_false (by show ¬ (i : Int) < (l.length : Int); omega)
  simp only [Repeat_int_L0,l1,cond_false]
 | succ j ih =>
  intro i l hj hl ht h1 hi
  by_cases hlt : i < m
  ·have l1 : decide ((i : Int) < ln l) = true:=decide_eq_true (by show (i : Int) < (l.length : Int); omega)
   have l2 : inR (i : Int) l.length = true:=by unfold inR; simp; omega
   have hr:=rcopy_rep hl ht hi
   have e : wr ((i : Int) + ((min (i : Int).toNat (l.length - (i : Int).toNat) : Nat) : Int)) = ((i + min i (m - i) : Nat) : Int):=by
    rw [show (i : Int).toNat = i by omega,hl,wr_of (by omega)]; omega
   refine Ev.step (Ev.of_eq (g:=fun n=>Repeat_int_L0 n [k] a1 r1 b2 (rcopy l i) ((i + min i (m - i) : Nat) : Int)) (fun n=>?_) (ih _ _ (by omega) hr.2 hr.1 (by omega) (by omega)))
   simp only [Repeat_int_L0,l1,l2,cond_true,e]
   rw [show (i : Int).toNat = i by omega]
  ·have : i = m:=by omega
   subst this
   have e : l = List.replicate i k:=by rw [← ht,List.take_of_length_le (by omega)]
   refine Ev.step (Ev.of_eq (g:=fun n=>some l) (fun n=>?_) (by rw [e]; exact Ev.ret _))
   have l1 : decide ((i : Int) < ln l) = false:=decide_eq_false (by show ¬ (i : Int) < (l.length : Int); omega)
   simp only [Repeat_int_L0,l1,cond_false]
theorem repeat_ev (k : Int) (m : Nat) (hm : m ≤ 1000000) : Ev (fun n=>Repeat_int n [k] (m : Int)) (List.replicate m k):=by
 have hneg : decide ((m : Int) < 0) = false:=decide_eq_false (by omega)
 have hw : wr (m : Int) = (m : Int):=wr_of (by omega)
 have hroom : mroom s_int.i1.bytes (m : Int) = true:=by
  have : s_int.i1.bytes = 8:=rfl
  unfold mroom roomB
  rw [this]; simp; omega
 have hb : decide ((0 : Int) > 0) = false:=rfl
 have hb2 : decide ((m : Int) > 9223372036854775807) = false:=decide_eq_false (by omega)
 refine Ev.of_eq (g:=fun n=>Repeat_int_L0 n [k] (m : Int) (0,(m : Int)) false (lcopy (List.replicate m (0 : Int)) [k]) ((min 1 m : Nat) : Int)) (fun n=>?_) ?_
 ·have:=mul_ev n m hm
  have e2 : IntKind.u64.wrap (ln [k]) = IntKind.u64.wrap (1 : Int):=rfl
  simp only [Repeat_int,hneg,cond_false,e2,this,Option.bind_some,jn,hb,hb2,hw,hroom,cond_true,List.length_replicate]
  rw [show (m : Int).toNat = m by omega]; rfl
 ·rcases Nat.eq_zero_or_pos m with rfl | hp
  ·exact Ev.step (Ev.of_eq (g:=fun n=>some []) (fun n=>by simp only [Repeat_int_L0]; rfl) (Ev.ret _))
  ·have e : min 1 m = 1:=by omega
   rw [e]
   refine repeat_L0 k _ _ _ m hm m 1 _ (by omega) (by rw [lcopy_length]; simp) ?_ (by omega) hp
   unfold lcopy lov
   simp only [List.length_singleton,List.length_replicate,e,List.take_zero,List.nil_append]
   simp
end Go.Su.YtcadbebhhnggdaaGreat
namespace Go.Su.YtcadbebhhnggdaaGreat
open Go.Mx Go.Proofs
set_option linter.unusedVariables false
set_option linter.unusedSimpArgs false
set_option maxHeartbeats 4000000
def toI (l : List Nat) : List Int:=l.map fun (k : Nat)=>(k : Int)
theorem roomL (a b : Nat) (h : a + b ≤ 1000000) : room s_Lint.i1.bytes a b = true:=room_of (by
 have : s_Lint.i1.bytes = 24:=rfl
 rw [this]; omega)
theorem roomA (a b : Nat) (h : a + b ≤ 1000000) : room s_Arr2_i64.i1.bytes a b = true:=room_of (by
 have : s_Arr2_i64.i1.bytes = 16:=rfl
 rw [this]; omega)
def enL : List Stmt → Nat → List Int
 | [],_=>[]
 | s :: r,i=>((i + (wn s + 1) : Nat) : Int) :: enL r (i + 1)
theorem enL_len : ∀ (l : List Stmt) (i : Nat),(enL l i).length = l.length
 | [],_=>rfl
 | s :: r,i=>by rw [enL,List.length_cons,List.length_cons,enL_len r (i + 1)]
theorem enL_app : ∀ (a b : List Stmt) (i : Nat),enL (a ++ b) i = enL a i ++ enL b (i + a.length)
 | [],b,i=>by simp [enL]
 | s :: r,b,i=>by rw [List.cons_append,enL,enL,enL_app r b (i + 1),List.cons_append,List.length_cons,show i + 1 + r.length = i + (r.length + 1) by omega]
theorem enL_get : ∀ (l : List Stmt) (i k : Nat) (s : Stmt),l[k]? = some s → (enL l i)[k]? = some ((i + k + (wn s + 1) : Nat) : Int)
 | [],_,_,_,h=>by simp at h
 | x :: r,i,0,s,h=>by
  have : x = s:=by simpa using h
  subst this; rfl
 | x :: r,i,k + 1,s,h=>by
  rw [enL,List.getElem?_cons_succ,enL_get r (i + 1) k s (by simpa using h)]
  congr 2; omega
theorem enL_idx (l : List Stmt) (k : Nat) (s : Stmt) (h : l[k]? = some s) : idx (enL l 0) (k : Int) = some ((k + (wn s + 1) : Nat) : Int):=by
 refine idx_of (by omega) ?_
 rw [Int.toNat_natCast,enL_get l 0 k s h,Nat.zero_add]
theorem ends_L0 (p : Prog) (S : List Stmt) (hS : S.length ≤ 400000) (hz : ∀ x ∈ S,szS x ≤ 400000) : ∀ (l pre : List Stmt),S = pre ++ l → Ev (fun n=>rank_ends_L0 n p S (enL pre 0) pre.length) (enL S 0)
 | [],pre,e=>by
  rw [List.append_nil] at e
  subst e
  exact Ev.step (Ev.of_eq (g:=fun n=>some (enL S 0)) (fun n=>by simp only [rank_ends_L0,ix_ge,cond_false]) (Ev.ret _))
 | x :: r,pre,e=>by
  have hp : pre.length + 1 ≤ 400000:=by rw [e] at hS; simp at hS; omega
  have hx:=hz x (by rw [e]; simp)
  have hw:=flat_len.1 x
  rw [fl1_len] at hw
  have d : decide ((pre.length : Int) < ln S) = true:=by rw [e]; exact ix_lt _ _ _
  have g : idx S (pre.length : Int) = some x:=by rw [e]; exact ix_get _ _ _
  have el:=List_ev [] [[x]] (by simp only [szT,szSl]; omega)
  have hf : ln (flats [[x]]) = ((wn x + 1 : Nat) : Int):=by
   show ((flats [[x]]).length : Int) = _
   simp only [flats,flat,List.append_nil,fl1_len]
  have ew : wr ((pre.length : Int) + ((wn x + 1 : Nat) : Int)) = ((pre.length + (wn x + 1) : Nat) : Int):=by rw [wr_of (by omega)]; omega
  have rm : ∀ v : Int,room s_int.i1.bytes (enL pre 0).length [v].length = true:=fun v=>roomC _ _ (by rw [enL_len]; simp; omega)
  have nx:=ends_L0 p S hS hz r (pre ++ [x]) (by rw [e]; exact ix_cons _ _ _)
  rw [enL_app,Nat.zero_add] at nx
  refine Ev.step (Ev.of_eq (g:=fun n=>(tree_List n (Prog.mk [] [[x]])).bind fun r5=>bif room s_int.i1.bytes (enL pre 0).length [wr ((pre.length : Int) + (ln r5))].length then rank_ends_L0 n p S (enL pre 0 ++ [wr ((pre.length : Int) + (ln r5))]) ((pre ++ [x]).length) else none) (fun n=>?_) (Ev.bind el (Ev.yes (rm _) (by rw [hf,ew]; exact nx))))
  simp only [rank_ends_L0,d,g,cond_true,Option.bind_some]
  rw [ix_wr pre x (by omega)]
theorem ends_ev (D : List Decl) (ts : List (List Stmt)) (hz : szT ts ≤ 100000) : Ev (fun n=>rank_ends n ⟨D,ts⟩) (enL (flats ts) 0):=by
 have l1:=len_T ts
 exact Ev.of_eq (g:=fun n=>(tree_List n ⟨D,ts⟩).bind fun r1=>rank_ends_L0 n ⟨D,ts⟩ r1 [] 0) (fun n=>by simp only [rank_ends]) (Ev.bind (List_ev D ts (by omega)) (ends_L0 ⟨D,ts⟩ (flats ts) (by omega) (fun x hx=>by have:=sz_flats ts x hx; omega) (flats ts) [] rfl))
def lt1 (E : List Int) (j k : Int) : Bool:=decide (j < k) && decide (k < (idx E j).getD 0)
def ins (E A B : List Int) : Bool:=B.any fun k=>A.any fun j=>lt1 E j k
theorem w11_ev (E : List Int) (j k : Int) (h : (idx E j).isSome = true) : Ev (fun n=>rank_within_1_1 n j k E) (lt1 E j k):=by
 obtain ⟨v,hv⟩:=Option.isSome_iff_exists.1 h
 unfold lt1
 rw [hv]
 cases c : decide (j < k)
 ·exact Ev.of_eq (g:=fun n=>some false) (fun n=>by simp only [rank_within_1_1,jn,c,cond_false]) (Ev.ret _)
 ·exact Ev.of_eq (g:=fun n=>some (decide (k < v))) (fun n=>by simp only [rank_within_1_1,jn,c,cond_true,hv,Option.bind_some]) (by simpa using Ev.ret (decide (k < v)))
theorem i11_L0 (E : List Int) (k : Int) : ∀ (l pre : List Int),(pre ++ l).length ≤ 2000000 → (∀ j ∈ l,(idx E j).isSome = true) → ∃ r,Ev (fun n=>IndexFunc_int_frank_within_1_1_L0 n (pre ++ l) k E pre.length) r ∧ decide (r ≥ 0) = l.any fun j=>lt1 E j k
 | [],pre,h,hs=>⟨-1,Ev.step (Ev.of_eq (g:=fun n=>some (-1)) (fun n=>by simp only [IndexFunc_int_frank_within_1_1_L0,List.append_nil,ix_ge,cond_false]) (Ev.ret _)),rfl⟩
 | x :: r,pre,h,hs=>by
  have hp : pre.length + 1 ≤ 2000000:=by simp at h; omega
  have hc:=w11_ev E x k (hs x (by simp))
  have base : ∀ n,IndexFunc_int_frank_within_1_1_L0 (n + 1) (pre ++ x :: r) k E pre.length = (rank_within_1_1 n x k E).bind fun r3=>bif r3 then some (pre.length : Int) else IndexFunc_int_frank_within_1_1_L0 n ((pre ++ [x]) ++ r) k E ((pre ++ [x]).length):=by
   intro n
   simp only [IndexFunc_int_frank_within_1_1_L0,ix_lt,ix_get,cond_true,Option.bind_some]
   rw [ix_wr pre x (by omega),← ix_cons]
  cases hb : lt1 E x k
  ·obtain ⟨q,h1,h2⟩:=i11_L0 E k r (pre ++ [x]) (by rw [← ix_cons]; exact h) (fun j hj=>hs j (by simp [hj]))
   exact ⟨q,Ev.step (Ev.of_eq base (Ev.bind hc (Ev.no hb h1))),by rw [h2]; simp [hb]⟩
  ·exact ⟨(pre.length : Int),Ev.step (Ev.of_eq base (Ev.bind hc (Ev.yes hb (Ev.ret _)))),by simp [hb]⟩
theorem w1_ev (E A : List Int) (k : Int) (hl : A.length ≤ 2000000) (hs : ∀ j ∈ A,(idx E j).isSome = true) : Ev (fun n=>rank_within_1 n k A E) (A.any fun j=>lt1 E j k):=by
 obtain ⟨r,h1,h2⟩:=i11_L0 E k A [] (by simpa using hl) hs
 have e : Ev (fun n=>IndexFunc_int_frank_within_1_1 n A k E) r:=Ev.of_eq (fun n=>by simp only [IndexFunc_int_frank_within_1_1]; rfl) h1
 exact Ev.of_eq (g:=fun n=>((IndexFunc_int_frank_within_1_1 n A k E).bind fun r1=>some (decide (r1 ≥ 0))).bind fun r1=>some r1) (fun n=>by simp only [rank_within_1,ContainsFunc_int_frank_within_1_1]) (Ev.bind (Ev.bind e (Ev.ret _)) (by rw [h2]; exact Ev.ret _))
theorem i1_L0 (E A : List Int) (hA : A.length ≤ 2000000) (hs : ∀ j ∈ A,(idx E j).isSome = true) : ∀ (l pre : List Int),(pre ++ l).length ≤ 2000000 → ∃ r,Ev (fun n=>IndexFunc_int_frank_within_1_L0 n (pre ++ l) A E pre.length) r ∧ decide (r ≥ 0) = ins E A l
 | [],pre,h=>⟨-1,Ev.step (Ev.of_eq (g:=fun n=>some (-1)) (fun n=>by simp only [IndexFunc_int_frank_within_1_L0,List.append_nil,ix_ge,cond_false]) (Ev.ret _)),rfl⟩
 | x :: r,pre,h=>by
  have hp : pre.length + 1 ≤ 2000000:=by simp at h; omega
  have hc:=w1_ev E A x hA hs
  have base : ∀ n,IndexFunc_int_frank_within_1_L0 (n + 1) (pre ++ x :: r) A E pre.length = (rank_within_1 n x A E).bind fun r3=>bif r3 then some (pre.length : Int) else IndexFunc_int_frank_within_1_L0 n ((pre ++ [x]) ++ r) A E ((pre ++ [x]).length):=by
   intro n
   simp only [IndexFunc_int_frank_within_1_L0,ix_lt,ix_get,cond_true,Option.bind_some]
   rw [ix_wr pre x (by omega),← ix_cons]
  unfold ins
  cases hb : A.any fun j=>lt1 E j x
  ·obtain ⟨q,h1,h2⟩:=i1_L0 E A hA hs r (pre ++ [x]) (by rw [← ix_cons]; exact h)
   exact ⟨q,Ev.step (Ev.of_eq base (Ev.bind hc (Ev.no hb h1))),by rw [h2,List.any_cons,hb]; rfl⟩
  ·exact ⟨(pre.length : Int),Ev.step (Ev.of_eq base (Ev.bind hc (Ev.yes hb (Ev.ret _)))),by rw [List.any_cons,hb,Bool.true_or]; simp⟩
theorem within_ev (E A B : List Int) (hA : A.length ≤ 2000000) (hB : B.length ≤ 2000000) (hs : ∀ j ∈ A,(idx E j).isSome = true) : Ev (fun n=>rank_within n B A E) (ins E A B):=by
 obtain ⟨r,h1,h2⟩:=i1_L0 E A hA hs B [] (by simpa using hB)
 have e : Ev (fun n=>IndexFunc_int_frank_within_1 n B A E) r:=Ev.of_eq (fun n=>by simp only [IndexFunc_int_frank_within_1]; rfl) h1
 exact Ev.of_eq (g:=fun n=>((IndexFunc_int_frank_within_1 n B A E).bind fun r1=>some (decide (r1 ≥ 0))).bind fun r1=>some r1) (fun n=>by simp only [rank_within,ContainsFunc_int_frank_within_1]) (Ev.bind (Ev.bind e (Ev.ret _)) (by rw [h2]; exact Ev.ret _))
def pbs (E A : List Int) (a : Nat) : List (List Int) → Nat → List Arr2_i64
 | [],_=>[]
 | B :: r,b=>(bif ((a : Int) != (b : Int)) && ins E A B then [⟨a,b⟩] else []) ++ pbs E A a r (b + 1)
def pas (E : List Int) (W : List (List Int)) : List (List Int) → Nat → List Arr2_i64
 | [],_=>[]
 | A :: r,a=>pbs E A a W 0 ++ pas E W r (a + 1)
theorem pbs_len (E A : List Int) (a : Nat) : ∀ (W : List (List Int)) (b : Nat),(pbs E A a W b).length ≤ W.length
 | [],_=>by simp [pbs]
 | B :: r,b=>by
  rw [pbs,List.length_append,List.length_cons]
  have:=pbs_len E A a r (b + 1)
  cases ((a : Int) != (b : Int)) && ins E A B <;> simp <;> omega
theorem in_L2 (p : Prog) (gs : List (List ByteArray)) (W : List (List Int)) (i2 : Int) (E : List Int) (l7 : List Arr2_i64) (a : Nat) (A : List Int) (hg : gs.length = W.length) (hw : W.length ≤ 100) (hlen : ∀ B ∈ W,B.length ≤ 2000000) (hA : W[a]? = some A) (hs : ∀ j ∈ A,(idx E j).isSome = true) (R : List Arr2_i64) :
  ∀ (l pre : List (List Int)) (acc : List Arr2_i64),W = pre ++ l → acc.length + l.length ≤ 100000 → Ev (fun n=>rank_Inside_L1 n p gs W i2 E (acc ++ pbs E A a l pre.length) E ((a + 1 : Nat) : Int)) R →
   Ev (fun n=>rank_Inside_L2 n p gs W i2 E l7 E (a : Int) acc pre.length) R
 | [],pre,acc,e,h1,h=>by
  rw [List.append_nil] at e
  have d : decide ((pre.length : Int) < ln gs) = false:=decide_eq_false (by show ¬ ((pre.length : Nat) : Int) < ((gs.length : Nat) : Int); rw [hg,e]; omega)
  have ha : a < W.length:=(List.getElem?_eq_some_iff.1 hA).1
  have e3 : wr ((a : Int) + 1) = ((a + 1 : Nat) : Int):=by rw [wr_of (by omega)]; rfl
  refine Ev.step (Ev.of_eq (fun n=>?_) (by simpa [pbs] using h))
  simp only [rank_Inside_L2,d,cond_false,e3]; rfl
 | B :: r,pre,acc,e,h1,h=>by
  have hp : pre.length + 1 ≤ 100:=by rw [e] at hw; simp at hw; omega
  simp only [List.length_cons] at h1
  have ha : a < W.length:=(List.getElem?_eq_some_iff.1 hA).1
  have d : decide ((pre.length : Int) < ln gs) = true:=decide_eq_true (by show ((pre.length : Nat) : Int) < ((gs.length : Nat) : Int); rw [hg,e]; simp; omega)
  have gB : idx W (pre.length : Int) = some B:=by rw [e]; exact ix_get _ _ _
  have gA : idx W (a : Int) = some A:=idx_of (by omega) (by rw [Int.toNat_natCast]; exact hA)
  have hAm : A ∈ W:=List.mem_of_getElem? hA
  have hBm : B ∈ W:=by rw [e]; simp
  have wv:=within_ev E A B (hlen A hAm) (hlen B hBm) hs
  have rm : room s_Arr2_i64.i1.bytes acc.length [(Arr2_i64.mk (a : Int) (pre.length : Int))].length = true:=roomA _ _ (by simp; omega)
  rw [pbs] at h
  have base : ∀ n,rank_Inside_L2 (n + 1) p gs W i2 E l7 E (a : Int) acc pre.length =
    (fun J15 : Bool → Option (List Arr2_i64)=>bif ((a : Int) != (pre.length : Int)) then (rank_within n B A E).bind J15 else J15 false) fun b14=>bif b14 then rank_Inside_L2 n p gs W i2 E l7 E (a : Int) (acc ++ [⟨(a : Int),(pre.length : Int)⟩]) ((pre ++ [B]).length) else rank_Inside_L2 n p gs W i2 E l7 E (a : Int) acc ((pre ++ [B]).length):=by
   intro n
   simp only [rank_Inside_L2,d,cond_true,jn,gA,gB,Option.bind_some,rm]
   rw [ix_wr pre B (by omega)]
  refine Ev.step (Ev.of_eq base ?_)
  cases c : ((a : Int) != (pre.length : Int))
  ·rw [c] at h
   simp only [Bool.false_and,cond_false,List.nil_append] at h ⊢
   exact in_L2 p gs W i2 E l7 a A hg hw hlen hA hs R r (pre ++ [B]) acc (by rw [e]; exact ix_cons _ _ _) (by omega) (by simpa using h)
  ·rw [c] at h
   simp only [Bool.true_and,cond_true] at h ⊢
   refine Ev.bind wv ?_
   cases hb : ins E A B
   ·rw [hb] at h
    exact in_L2 p gs W i2 E l7 a A hg hw hlen hA hs R r (pre ++ [B]) acc (by rw [e]; exact ix_cons _ _ _) (by omega) (by simpa using h)
   ·rw [hb] at h
    exact in_L2 p gs W i2 E l7 a A hg hw hlen hA hs R r (pre ++ [B]) (acc ++ [⟨(a : Int),(pre.length : Int)⟩]) (by rw [e]; exact ix_cons _ _ _) (by simp; omega) (by simpa using h)
theorem in_L1 (p : Prog) (gs : List (List ByteArray)) (W : List (List Int)) (i2 : Int) (E : List Int) (hg : gs.length = W.length) (hw : W.length ≤ 100) (hlen : ∀ B ∈ W,B.length ≤ 2000000) (hs : ∀ A ∈ W,∀ j ∈ A,(idx E j).isSome = true) :
  ∀ (l pre : List (List Int)) (acc : List Arr2_i64),W = pre ++ l → acc.length ≤ 100 * pre.length → Ev (fun n=>rank_Inside_L1 n p gs W i2 E acc E pre.length) (acc ++ pas E W l pre.length)
 | [],pre,acc,e,h1=>by
  rw [List.append_nil] at e
  have d : decide ((pre.length : Int) < ln gs) = false:=decide_eq_false (by show ¬ ((pre.length : Nat) : Int) < ((gs.length : Nat) : Int); rw [hg,e]; omega)
  exact Ev.step (Ev.of_eq (g:=fun n=>some acc) (fun n=>by simp only [rank_Inside_L1,d,cond_false,Clip_2int,sub_all,Option.bind_some]) (by simpa [pas] using Ev.ret acc))
 | A :: r,pre,acc,e,h1=>by
  have hp : pre.length + 1 ≤ 100:=by rw [e] at hw; simp at hw; omega
  have d : decide ((pre.length : Int) < ln gs) = true:=decide_eq_true (by show ((pre.length : Nat) : Int) < ((gs.length : Nat) : Int); rw [hg,e]; simp; omega)
  have gA : W[pre.length]? = some A:=by rw [e]; simp
  have hl:=pbs_len E A pre.length W 0
  have nx:=in_L1 p gs W i2 E hg hw hlen hs r (pre ++ [A]) (acc ++ pbs E A pre.length W 0) (by rw [e]; exact ix_cons _ _ _) (by simp; omega)
  have n2:=in_L2 p gs W i2 E acc pre.length A hg hw hlen gA (hs A (by rw [e]; simp)) (acc ++ pas E W (A :: r) pre.length) W [] acc rfl (by omega) (by rw [pas]; simpa using nx)
  refine Ev.step (Ev.of_eq (fun n=>?_) n2)
  simp only [rank_Inside_L1,d,cond_true]; rfl
theorem in_L0 (p : Prog) (gs : List (List ByteArray)) (hg : gs.length ≤ 100) (Wf : List ByteArray → List Int) (E : List Int) (hW : ∀ g ∈ gs,Ev (fun n=>cost_Wrapped n p g) (Wf g)) (hE : Ev (fun n=>rank_ends n p) E) (R : List Arr2_i64)
  (hend : Ev (fun n=>rank_Inside_L1 n p gs (gs.map Wf) ((gs.length : Nat) : Int) E [] E 0) R) : ∀ (l pre : List (List ByteArray)),gs = pre ++ l → Ev (fun n=>rank_Inside_L0 n p gs (pre.map Wf) pre.length) R
 | [],pre,e=>by
  rw [List.append_nil] at e
  subst e
  refine Ev.step (Ev.of_eq (g:=fun n=>(rank_ends n p).bind fun r6=>rank_Inside_L1 n p gs (gs.map Wf) ((gs.length : Nat) : Int) r6 [] r6 0) (fun n=>?_) (Ev.bind hE hend))
  simp only [rank_Inside_L0,ix_ge,cond_false]
 | g :: r,pre,e=>by
  have hp : pre.length + 1 ≤ 100:=by rw [e] at hg; simp at hg; omega
  have d : decide ((pre.length : Int) < ln gs) = true:=by rw [e]; exact ix_lt _ _ _
  have gg : idx gs (pre.length : Int) = some g:=by rw [e]; exact ix_get _ _ _
  have nx:=in_L0 p gs hg Wf E hW hE R hend r (pre ++ [g]) (by rw [e]; exact ix_cons _ _ _)
  refine Ev.step (Ev.of_eq (g:=fun n=>(cost_Wrapped n p g).bind fun r4=>bif room s_Lint.i1.bytes (pre.map Wf).length [r4].length then rank_Inside_L0 n p gs (pre.map Wf ++ [r4]) ((pre ++ [g]).length) else none) (fun n=>?_) (Ev.bind (hW g (by rw [e]; simp)) (Ev.yes (roomL _ _ (by simp; omega)) (by simpa using nx))))
  simp only [rank_Inside_L0,d,gg,cond_true,Option.bind_some]
  rw [ix_wr pre g (by omega)]
def wf (ts : List (List Stmt)) (g : List ByteArray) : List Int:=toI (wrp (flats ts) g (flats ts).length 0)
def inside (ts : List (List Stmt)) (gs : List (List ByteArray)) : List Arr2_i64:=pas (enL (flats ts) 0) (gs.map (wf ts)) (gs.map (wf ts)) 0
theorem wf_mem (ts : List (List Stmt)) (g : List ByteArray) : ∀ j ∈ wf ts g,∃ (k : Nat) (s : Stmt),j = k ∧ (flats ts)[k]? = some s:=by
 intro j hj
 unfold wf toI at hj
 obtain ⟨k,hk,rfl⟩:=List.mem_map.1 hj
 obtain ⟨_,s,hs,_⟩:=wrp_lo _ _ _ _ _ hk
 exact ⟨k,s,rfl,hs⟩
theorem wf_some (ts : List (List Stmt)) (g : List ByteArray) : ∀ j ∈ wf ts g,(idx (enL (flats ts) 0) j).isSome = true:=by
 intro j hj
 obtain ⟨k,s,rfl,hs⟩:=wf_mem ts g j hj
 rw [enL_idx _ k s hs]; rfl
theorem wrp_len (r : List Stmt) (nm : List ByteArray) : ∀ m i,(wrp r nm m i).length ≤ m:=by
 intro m
 induction m with
 | zero=>intro i; simp [wrp]
 | succ m ih =>
  intro i
  rw [wrp]
  cases g : r[i]? with
  | none=>simp
  | some s =>
   cases c : hit s nm
   ·simp only [c,cond_false]; have:=ih (i + 1); omega
   ·simp only [c,cond_true,List.length_cons]; have:=ih (i + (wn s + 1)); omega
theorem Inside_ev (D : List Decl) (ts : List (List Stmt)) (gs : List (List ByteArray)) (hz : szT ts ≤ 50000) (hg : gs.length ≤ 100) (hn : ∀ g ∈ gs,g.length ≤ 4000000) : Ev (fun n=>rank_Inside n ⟨D,ts⟩ gs) (inside ts gs):=by
 have l1:=len_T ts
 have hw : ∀ g,(wf ts g).length ≤ 2000000:=fun g=>by
  have:=wrp_len (flats ts) g (flats ts).length 0
  unfold wf toI
  rw [List.length_map]; omega
 refine Ev.of_eq (fun n=>by simp only [rank_Inside]; rfl) (in_L0 ⟨D,ts⟩ gs hg (wf ts) (enL (flats ts) 0) (fun g hgm=>wrp_ev D ts g (hn g hgm) (by omega)) (ends_ev D ts (by omega)) _ ?_ gs [] rfl)
 exact in_L1 ⟨D,ts⟩ gs (gs.map (wf ts)) _ (enL (flats ts) 0) (by simp) (by simpa using hg) (fun B hB=>by obtain ⟨g,_,rfl⟩:=List.mem_map.1 hB; exact hw g) (fun A hA=>by obtain ⟨g,_,rfl⟩:=List.mem_map.1 hA; exact wf_some ts g) (gs.map (wf ts)) [] [] rfl (by simp)
end Go.Su.YtcadbebhhnggdaaGreat
namespace Go.Su.YtcadbebhhnggdaaGreat
open Go.Mx Go.Proofs
set_option linter.unusedVariables false
set_option linter.unusedSimpArgs false
set_option maxHeartbeats 4000000
def wt1 (R : List Int) (g : Int) (x : Arr2_i64) : Bool:=(x.e1 == g) && decide ((idx R x.e0).getD 0 < 0)
def wts (I : List Arr2_i64) (R : List Int) (g : Int) : Bool:=I.any (wt1 R g)
def okI (I : List Arr2_i64) (n : Nat) : Prop:=∀ x ∈ I,∃ a : Nat,a < n ∧ x.e0 = a
theorem idx_ok (R : List Int) (a : Nat) (h : a < R.length) : idx R (a : Int) = some R[a]:=idx_of (by omega) (by rw [Int.toNat_natCast]; exact List.getElem?_eq_getElem h)
theorem o1_ev (R : List Int) (g : Int) (x : Arr2_i64) (h : ∃ a : Nat,a < R.length ∧ x.e0 = a) : Ev (fun n=>rank_Order_1 n x g R) (wt1 R g x):=by
 obtain ⟨a,h1,h2⟩:=h
 have hi:=idx_ok R a h1
 rw [← h2] at hi
 unfold wt1
 rw [hi]
 cases c : (x.e1 == g)
 ·exact Ev.of_eq (g:=fun n=>some false) (fun n=>by simp only [rank_Order_1,jn,c,cond_false]) (Ev.ret _)
 ·exact Ev.of_eq (g:=fun n=>some (decide (R[a] < 0))) (fun n=>by simp only [rank_Order_1,jn,c,cond_true,hi,Option.bind_some]) (by simpa using Ev.ret (decide (R[a] < 0)))
theorem oI_L0 (R : List Int) (g : Int) : ∀ (l pre : List Arr2_i64),(pre ++ l).length ≤ 2000000 → okI l R.length → ∃ r,Ev (fun n=>IndexFunc_2int_frank_Order_1_L0 n (pre ++ l) g R pre.length) r ∧ decide (r ≥ 0) = wts l R g
 | [],pre,h,hs=>⟨-1,Ev.step (Ev.of_eq (g:=fun n=>some (-1)) (fun n=>by simp only [IndexFunc_2int_frank_Order_1_L0,List.append_nil,ix_ge,cond_false]) (Ev.ret _)),rfl⟩
 | x :: r,pre,h,hs=>by
  have hp : pre.length + 1 ≤ 2000000:=by simp at h; omega
  have hc:=o1_ev R g x (hs x (by simp))
  have base : ∀ n,IndexFunc_2int_frank_Order_1_L0 (n + 1) (pre ++ x :: r) g R pre.length = (rank_Order_1 n x g R).bind fun r3=>bif r3 then some (pre.length : Int) else IndexFunc_2int_frank_Order_1_L0 n ((pre ++ [x]) ++ r) g R ((pre ++ [x]).length):=by
   intro n
   simp only [IndexFunc_2int_frank_Order_1_L0,ix_lt,ix_get,cond_true,Option.bind_some]
   rw [ix_wr pre x (by omega),← ix_cons]
  unfold wts
  cases hb : wt1 R g x
  ·obtain ⟨q,h1,h2⟩:=oI_L0 R g r (pre ++ [x]) (by rw [← ix_cons]; exact h) (fun j hj=>hs j (by simp [hj]))
   exact ⟨q,Ev.step (Ev.of_eq base (Ev.bind hc (Ev.no hb h1))),by rw [h2,List.any_cons,hb]; rfl⟩
  ·exact ⟨(pre.length : Int),Ev.step (Ev.of_eq base (Ev.bind hc (Ev.yes hb (Ev.ret _)))),by rw [List.any_cons,hb,Bool.true_or]; simp⟩
theorem waits_ev (I : List Arr2_i64) (R : List Int) (g : Int) (hl : I.length ≤ 2000000) (hs : okI I R.length) : Ev (fun n=>ContainsFunc_2int_frank_Order_1 n I g R) (wts I R g):=by
 obtain ⟨r,h1,h2⟩:=oI_L0 R g I [] (by simpa using hl) hs
 have e : Ev (fun n=>IndexFunc_2int_frank_Order_1 n I g R) r:=Ev.of_eq (fun n=>by simp only [IndexFunc_2int_frank_Order_1]; rfl) h1
 exact Ev.of_eq (g:=fun n=>(IndexFunc_2int_frank_Order_1 n I g R).bind fun r1=>some (decide (r1 ≥ 0))) (fun n=>by simp only [ContainsFunc_2int_frank_Order_1]) (Ev.bind e (by rw [h2]; exact Ev.ret _))
def fre (I : List Arr2_i64) (R : List Int) (i : Nat) : Bool:=decide (R.getD i 0 < 0) && !wts I R (i : Int)
def nxg (I : List Arr2_i64) (R : List Int) : Nat → Nat → Int → Int
 | 0,_,c=>c
 | m + 1,i,c=>nxg I R m (i + 1) (bif fre I R i && decide (c < 0) then (i : Int) else c)
theorem or_L1 (p : Prog) (gs : List (List ByteArray)) (I : List Arr2_i64) (r2 R : List Int) (i4 : Int) (hR : R.length = gs.length) (hg : gs.length ≤ 100) (hl : I.length ≤ 2000000) (hs : okI I R.length) (X : List Int × Int)
  (hend : Ev (fun n=>bif decide (nxg I R gs.length 0 (-1) < 0) then some ([],8) else (idx R (nxg I R gs.length 0 (-1))).bind fun _=>rank_Order_L0 n p gs I r2 (R.set (nxg I R gs.length 0 (-1)).toNat i4) (wr (i4 + 1))) X) :
  ∀ (m i : Nat) (c : Int),m = gs.length - i → i ≤ gs.length → nxg I R m i c = nxg I R gs.length 0 (-1) → Ev (fun n=>rank_Order_L1 n p gs I r2 R i4 c (i : Int)) X
 | 0,i,c,hm,hi,hc=>by
  have d : decide ((i : Int) < ln gs) = false:=decide_eq_false (by show ¬ (i : Int) < ((gs.length : Nat) : Int); omega)
  rw [← hc] at hend
  rw [nxg] at hend
  refine Ev.step (Ev.of_eq (fun n=>?_) hend)
  simp only [rank_Order_L1,d,cond_false]
 | m + 1,i,c,hm,hi,hc=>by
  have d : decide ((i : Int) < ln gs) = true:=decide_eq_true (by show (i : Int) < ((gs.length : Nat) : Int); omega)
  have hiR : i < R.length:=by omega
  have g:=idx_ok R i hiR
  have e3 : wr ((i : Int) + 1) = ((i + 1 : Nat) : Int):=by rw [wr_of (by omega)]; rfl
  have hw:=waits_ev I R (i : Int) hl hs
  rw [nxg] at hc
  have nx:=or_L1 p gs I r2 R i4 hR hg hl hs X hend m (i + 1) _ (by omega) (by omega) hc
  have gd : R.getD i 0 = R[i]:=by rw [List.getD_eq_getElem?_getD,List.getElem?_eq_getElem hiR]; rfl
  refine Ev.step (Ev.of_eq (g:=fun n=>(ContainsFunc_2int_frank_Order_1 n I (i : Int) R).bind fun r9=>rank_Order_L1 n p gs I r2 R i4 (bif (decide (R[i] < 0) && !r9) && decide (c < 0) then (i : Int) else c) ((i + 1 : Nat) : Int)) (fun n=>?_) (Ev.bind hw ?_))
  ·simp only [rank_Order_L1,d,cond_true,jn,g,Option.bind_some,e3]
   congr 1
   funext r9
   cases decide (R[i] < 0) <;> cases r9 <;> cases decide (c < 0) <;> rfl
  ·unfold fre at nx
   rw [gd] at nx
   exact nx
def rks (I : List Arr2_i64) (n : Nat) : Nat → Nat → List Int → List Int × Int
 | 0,_,R=>(R,0)
 | m + 1,i,R=>bif decide (nxg I R n 0 (-1) < 0) then ([],8) else rks I n m (i + 1) (R.set (nxg I R n 0 (-1)).toNat (i : Int))
theorem nxg_lt (I : List Arr2_i64) (R : List Int) : ∀ (m i : Nat) (c : Int),c < 0 ∨ (∃ k : Nat,c = k ∧ k < i + m) → nxg I R m i c < 0 ∨ ∃ k : Nat,nxg I R m i c = k ∧ k < i + m
 | 0,i,c,h=>by rw [nxg]; exact h
 | m + 1,i,c,h=>by
  rw [nxg]
  have:=nxg_lt I R m (i + 1) (bif fre I R i && decide (c < 0) then (i : Int) else c) (by
   cases fre I R i && decide (c < 0)
   ·rcases h with h | ⟨k,h1,h2⟩
    ·exact .inl h
    ·exact .inr ⟨k,h1,by omega⟩
   ·exact .inr ⟨i,rfl,by omega⟩)
  rw [show i + (m + 1) = i + 1 + m by omega]; exact this
theorem or_L0 (p : Prog) (gs : List (List ByteArray)) (I : List Arr2_i64) (r2 : List Int) (hg : gs.length ≤ 100) (hl : I.length ≤ 2000000) (hs : okI I gs.length) : ∀ (m i : Nat) (R : List Int),m = gs.length - i → i ≤ gs.length → R.length = gs.length →
  Ev (fun n=>rank_Order_L0 n p gs I r2 R (i : Int)) (rks I gs.length m i R)
 | 0,i,R,hm,hi,hR=>by
  have d : decide ((i : Int) < ln gs) = false:=decide_eq_false (by show ¬ (i : Int) < ((gs.length : Nat) : Int); omega)
  exact Ev.step (Ev.of_eq (g:=fun n=>some (R,0)) (fun n=>by simp only [rank_Order_L0,d,cond_false,Clip_int,sub_all,Option.bind_some]) (Ev.ret _))
 | m + 1,i,R,hm,hi,hR=>by
  have d : decide ((i : Int) < ln gs) = true:=decide_eq_true (by show (i : Int) < ((gs.length : Nat) : Int); omega)
  have e3 : wr ((i : Int) + 1) = ((i + 1 : Nat) : Int):=by rw [wr_of (by omega)]; rfl
  have hend : Ev (fun n=>bif decide (nxg I R gs.length 0 (-1) < 0) then some ([],8) else (idx R (nxg I R gs.length 0 (-1))).bind fun _=>rank_Order_L0 n p gs I r2 (R.set (nxg I R gs.length 0 (-1)).toNat (i : Int)) (wr ((i : Int) + 1))) (rks I gs.length (m + 1) i R):=by
   rw [rks]
   cases c : decide (nxg I R gs.length 0 (-1) < 0)
   ·rcases nxg_lt I R gs.length 0 (-1) (.inl (by omega)) with h | ⟨k,h1,h2⟩
    ·rw [decide_eq_true h] at c; cases c
    ·have g:=idx_ok R k (by omega)
     rw [← h1] at g
     simp only [cond_false,g,Option.bind_some,e3]
     exact or_L0 p gs I r2 hg hl hs m (i + 1) (R.set (nxg I R gs.length 0 (-1)).toNat (i : Int)) (by omega) (by omega) (by simpa using hR)
   ·exact Ev.ret _
  have n1:=or_L1 p gs I r2 R (i : Int) hR hg hl (by rw [hR]; exact hs) _ hend gs.length 0 (-1) rfl (by omega) rfl
  refine Ev.step (Ev.of_eq (fun n=>?_) n1)
  simp only [rank_Order_L0,d,cond_true]; rfl
theorem pbs_ok (E A : List Int) (a : Nat) : ∀ (W : List (List Int)) (b : Nat),∀ x ∈ pbs E A a W b,x.e0 = a
 | [],_,x,h=>by simp [pbs] at h
 | B :: r,b,x,h=>by
  rw [pbs] at h
  rcases List.mem_append.1 h with h | h
  ·cases c : ((a : Int) != (b : Int)) && ins E A B
   ·rw [c] at h; simp at h
   ·rw [c] at h; simp at h; rw [h]
  ·exact pbs_ok E A a r (b + 1) x h
theorem pas_ok (E : List Int) (W : List (List Int)) : ∀ (l : List (List Int)) (a : Nat),∀ x ∈ pas E W l a,∃ k : Nat,k < a + l.length ∧ x.e0 = k
 | [],_,x,h=>by simp [pas] at h
 | A :: r,a,x,h=>by
  rw [pas] at h
  rcases List.mem_append.1 h with h | h
  ·exact ⟨a,by simp,pbs_ok E A a W 0 x h⟩
  ·obtain ⟨k,h1,h2⟩:=pas_ok E W r (a + 1) x h
   exact ⟨k,by simp; omega,h2⟩
theorem pas_len (E : List Int) (W : List (List Int)) : ∀ (l : List (List Int)) (a : Nat),(pas E W l a).length ≤ W.length * l.length
 | [],_=>by simp [pas]
 | A :: r,a=>by
  rw [pas,List.length_append,List.length_cons,Nat.mul_succ]
  have:=pas_len E W r (a + 1)
  have:=pbs_len E A a W 0
  omega
def ranks (I : List Arr2_i64) (n : Nat) : List Int × Int:=rks I n n 0 (List.replicate n (-1))
theorem Order_ev (D : List Decl) (ts : List (List Stmt)) (gs : List (List ByteArray)) (hz : szT ts ≤ 50000) (hg : gs.length ≤ 100) (hn : ∀ g ∈ gs,g.length ≤ 4000000) : Ev (fun n=>rank_Order n ⟨D,ts⟩ gs) (ranks (inside ts gs) gs.length):=by
 have hl:=pas_len (enL (flats ts) 0) (gs.map (wf ts)) (gs.map (wf ts)) 0
 have hok : okI (inside ts gs) gs.length:=fun x hx=>by
  obtain ⟨k,h1,h2⟩:=pas_ok _ _ _ _ x hx
  exact ⟨k,by simpa using h1,h2⟩
 rw [List.length_map] at hl
 have hl2 : (inside ts gs).length ≤ 2000000:=by
  have : gs.length * gs.length ≤ 100 * 100:=Nat.mul_le_mul hg hg
  unfold inside; omega
 have hr:=repeat_ev (-1) gs.length (by omega)
 refine Ev.of_eq (g:=fun n=>(rank_Inside n ⟨D,ts⟩ gs).bind fun r1=>(Repeat_int n [(-1)] ((gs.length : Nat) : Int)).bind fun r2=>rank_Order_L0 n ⟨D,ts⟩ gs r1 r2 r2 0) (fun n=>by simp only [rank_Order]) (Ev.bind (Inside_ev D ts gs hz hg hn) (Ev.bind hr ?_))
 exact or_L0 ⟨D,ts⟩ gs (inside ts gs) _ hg hl2 hok gs.length 0 _ rfl (by omega) (by simp)
end Go.Su.YtcadbebhhnggdaaGreat
namespace Go.Su.YtcadbebhhnggdaaGreat
open Go.Mx Go.Proofs
set_option linter.unusedVariables false
set_option linter.unusedSimpArgs false
set_option maxHeartbeats 4000000
theorem rnames_ev : (∀ e,szE e ≤ 1000000 → Ev (fun n=>ref1_Names n e) (nmE e)) ∧
  ∀ l,∀ (k m : Int) (w : ByteArray) (l1 : List ByteArray) (pre : List Expr) (acc : List ByteArray),(pre ++ l).length ≤ 1000000 → acc.length + szEl l ≤ 1000000 → Ev (fun n=>ref1_Names_L0 n ⟨k,m,w,pre ++ l⟩ l1 acc pre.length) (acc ++ nmEl l):=by
 refine expr_ind ?_ ?_ ?_
 ·intro k m w l ih h
  rw [szE] at h
  have hl:=len_El l
  by_cases h2 : k = 2
  ·have b : (k == 2) = true:=by simpa using h2
   refine Ev.step (Ev.of_eq (g:=fun n=>ref1_Names_L0 n ⟨k,m,w,[] ++ l⟩ ([] ++ [w]) ([] ++ [w]) 0) (fun n=>?_) ?_)
   ·simp only [ref1_Names,jn,b,cond_true,roomW ([] : List ByteArray).length [w].length (by simp)]; rfl
   ·have:=ih k m w ([] ++ [w]) [] ([] ++ [w]) (by simp; omega) (by simp; omega)
    rw [nmE,if_pos h2]; exact this
  ·have b : (k == 2) = false:=by simpa using h2
   refine Ev.step (Ev.of_eq (g:=fun n=>ref1_Names_L0 n ⟨k,m,w,[] ++ l⟩ [] [] 0) (fun n=>?_) ?_)
   ·simp only [ref1_Names,jn,b,cond_false]; rfl
   ·have:=ih k m w [] [] [] (by simp; omega) (by simp; omega)
    rw [nmE,if_neg h2]; exact this
 ·intro k m w l1 pre acc hl h1
  refine Ev.step (Ev.of_eq (g:=fun n=>some acc) (fun n=>?_) (by simpa [nmEl] using Ev.ret acc))
  simp only [ref1_Names_L0,List.append_nil,ix_ge,cond_false]
 ·intro e r ihe ihr k m w l1 pre acc hl h1
  rw [szEl] at h1
  have hn:=nm_len.1 e
  have hp : pre.length ≤ 1000000:=by simp at hl; omega
  refine Ev.step (Ev.of_eq (g:=fun n=>(ref1_Names n e).bind fun r7=>bif room s_string.i1.bytes acc.length r7.length then ref1_Names_L0 n ⟨k,m,w,(pre ++ [e]) ++ r⟩ l1 (acc ++ r7) ((pre ++ [e]).length) else none) (fun n=>?_) (Ev.bind (ihe (by omega)) ?_))
  ·simp only [ref1_Names_L0,ix_lt,cond_true,ix_get,Option.bind_some]
   rw [ix_wr pre e (by omega),← ix_cons]
  ·simp only [roomW acc.length (nmE e).length (by omega),cond_true]
   have:=ihr k m w l1 (pre ++ [e]) (acc ++ nmE e) (by rw [← ix_cons]; exact hl) (by rw [List.length_append]; omega)
   rw [nmEl]; simpa using this
theorem rtouch_ev (s : Stmt) (h : szE s.E ≤ 1000000) : Ev (fun n=>ref1_Touches n s) (tch s):=by
 have hn:=nm_len.1 s.E
 have r1 : ∀ w : ByteArray,room s_string.i1.bytes (nmE s.E).length [w].length = true:=fun w=>roomW _ _ (by simp; omega)
 have r2 : ∀ w : ByteArray,room s_string.i1.bytes ([] : List ByteArray).length [w].length = true:=fun w=>roomW _ _ (by simp)
 by_cases k1 : s.Kind = 1
 ·have e : tch s = nmE s.E ++ [s.Name]:=by simp [tch,k1]
  rw [e]
  refine Ev.of_eq (g:=fun n=>(ref1_Names n s.E).bind fun r5=>bif room s_string.i1.bytes r5.length [s.Name].length then some (r5 ++ [s.Name]) else none) (fun n=>?_) (Ev.bind (rnames_ev.1 s.E h) ?_)
  ·simp only [ref1_Touches,jn,k1]; rfl
  ·simp only [r1,cond_true]; exact Ev.ret _
 have b1 : (s.Kind == 1) = false:=by simpa using k1
 by_cases k2 : s.Kind = 4 ∨ s.Kind = 6 ∨ s.Kind = 7
 ·have e : tch s = nmE s.E:=by
   have : s.Kind ≠ 5:=by omega
   simp [tch,k1,k2,this]
  rw [e]
  have b5 : (s.Kind == 5) = false:=by simp; omega
  refine Ev.of_eq (g:=fun n=>(ref1_Names n s.E).bind fun r5=>some r5) (fun n=>?_) (Ev.bind (rnames_ev.1 s.E h) (Ev.ret _))
  simp only [ref1_Touches,jn,b1,b5,cond_false]
  rcases k2 with k | k | k <;> rw [k] <;> rfl
 ·have b4 : (s.Kind == 4) = false:=by simp; omega
  have b6 : (s.Kind == 6) = false:=by simp; omega
  have b7 : (s.Kind == 7) = false:=by simp; omega
  by_cases k5 : s.Kind = 5
  ·have e : tch s = [] ++ [s.Other]:=by simp [tch,k5]
   rw [e]
   refine Ev.of_eq (g:=fun n=>some ([] ++ [s.Other])) (fun n=>?_) (Ev.ret _)
   have b5 : (s.Kind == 5) = true:=by simpa using k5
   simp only [ref1_Touches,jn,b1,b4,b5,b6,b7,cond_false,cond_true,r2]
  ·have e : tch s = []:=by
    have : ¬ (s.Kind = 1 ∨ s.Kind = 4 ∨ s.Kind = 6 ∨ s.Kind = 7):=by omega
    unfold tch; rw [if_neg this,if_neg k1,if_neg k5]; rfl
   rw [e]
   have b5 : (s.Kind == 5) = false:=by simpa using k5
   refine Ev.of_eq (g:=fun n=>some []) (fun n=>?_) (Ev.ret _)
   simp only [ref1_Touches,jn,b1,b4,b5,b6,b7,cond_false]
end Go.Su.YtcadbebhhnggdaaGreat
namespace Go.Su.YtcadbebhhnggdaaGreat
open Go.Mx Go.Proofs
set_option linter.unusedVariables false
set_option linter.unusedSimpArgs false
set_option maxHeartbeats 4000000
theorem roomS (a b : Nat) (h : a + b ≤ 3000000) : room s_Stmt.i1.bytes a b = true:=room_of (by
 have : s_Stmt.i1.bytes = 168:=rfl
 rw [this]; omega)
theorem rblock_ev : (∀ s : Stmt,szS s ≤ 1000000 → Ev (fun n=>ref1_block n s.Body) (flat s.Body) ∧ Ev (fun n=>ref1_block n s.Else) (flat s.Else)) ∧
  ∀ l,∀ (out : List Stmt) (pre : List Stmt),out.length + szSl l ≤ 1000000 → (pre ++ l).length ≤ 1000000 → Ev (fun n=>ref1_block_L0 n (pre ++ l) out pre.length) (out ++ flat l):=by
 refine stmt_ind ?_ ?_ ?_
 ·intro k w v m e b l a ihb ihl h
  rw [szS] at h
  have lb:=len_Sl b
  have ll:=len_Sl l
  exact ⟨Ev.step (Ev.of_eq (fun n=>by simp only [ref1_block]; rfl) (by simpa using ihb [] [] (by simp; omega) (by simp; omega))),
   Ev.step (Ev.of_eq (fun n=>by simp only [ref1_block]; rfl) (by simpa using ihl [] [] (by simp; omega) (by simp; omega)))⟩
 ·intro out pre h1 h2
  refine Ev.step (Ev.of_eq (g:=fun n=>some out) (fun n=>?_) (by simpa [flat] using Ev.ret out))
  simp only [ref1_block_L0,List.append_nil,ix_ge,cond_false]
 ·intro x r ihx ihr out pre h1 h2
  rw [szSl] at h1
  have hp : pre.length ≤ 1000000:=by simp at h2; omega
  have f1:=flat_len.1 x
  rw [fl1_eq] at f1
  simp only [List.length_cons,List.length_append] at f1
  have hx:=ihx (by omega)
  refine Ev.step (Ev.of_eq (g:=fun n=>(ref1_block n x.Body).bind fun r6=>bif room s_Stmt.i1.bytes (out ++ [x]).length r6.length then (ref1_block n x.Else).bind fun r9=>bif room s_Stmt.i1.bytes ((out ++ [x]) ++ r6).length r9.length then ref1_block_L0 n ((pre ++ [x]) ++ r) (((out ++ [x]) ++ r6) ++ r9) ((pre ++ [x]).length) else none else none) (fun n=>?_) (Ev.bind hx.1 ?_))
  ·simp only [ref1_block_L0,ix_lt,cond_true,ix_get,Option.bind_some,roomS out.length [x].length (by simp; omega)]
   rw [ix_wr pre x (by omega),← ix_cons]
  ·simp only [roomS (out ++ [x]).length (flat x.Body).length (by simp; omega),cond_true]
   refine Ev.bind hx.2 ?_
   simp only [roomS ((out ++ [x]) ++ flat x.Body).length (flat x.Else).length (by simp; omega),cond_true]
   have:=ihr (out ++ [x] ++ flat x.Body ++ flat x.Else) (pre ++ [x]) (by simp only [List.length_append,List.length_singleton]; omega) (by rw [← ix_cons]; exact h2)
   rw [flat,fl1_eq]
   simpa using this
theorem rblk_ev (l : List Stmt) (h : szSl l ≤ 1000000) : Ev (fun n=>ref1_block n l) (flat l):=by
 have hl:=len_Sl l
 exact Ev.step (Ev.of_eq (fun n=>by simp only [ref1_block]; rfl) (by simpa using rblock_ev.2 l [] [] (by simpa using h) (by simp; omega)))
theorem rList_L0 (D : List Decl) (ts : List (List Stmt)) (hz : szT ts ≤ 1000000) : ∀ (l pre : List (List Stmt)) (acc : List Stmt),ts = pre ++ l → acc ++ flats l = flats ts → acc.length + szT l ≤ 1000000 → Ev (fun n=>ref1_List_L0 n ⟨D,ts⟩ acc pre.length) (flats ts)
 | [],pre,acc,e,ea,h=>by
  rw [flats,List.append_nil] at ea
  subst ea
  rw [List.append_nil] at e
  refine Ev.step (Ev.of_eq (g:=fun n=>some (flats ts)) (fun n=>?_) (Ev.ret _))
  have l1 : decide ((pre.length : Int) < ln ts) = false:=by rw [e]; exact ix_ge _
  simp only [ref1_List_L0,l1,cond_false]
 | t :: r,pre,acc,e,ea,h=>by
  have hts:=len_T ts
  rw [szT] at h
  have hp : pre.length + 1 ≤ ts.length:=by rw [e]; simp
  have hf:=flat_len.2 t
  refine Ev.step (Ev.of_eq (g:=fun n=>(ref1_block n t).bind fun r4=>bif room s_Stmt.i1.bytes acc.length r4.length then ref1_List_L0 n ⟨D,ts⟩ (acc ++ r4) ((pre ++ [t]).length) else none) (fun n=>?_) (Ev.bind (rblk_ev t (by omega)) ?_))
  ·have l1 : decide ((pre.length : Int) < ln ts) = true:=by rw [e]; exact ix_lt _ _ _
   have l2 : idx ts (pre.length : Int) = some t:=by rw [e]; exact ix_get _ _ _
   simp only [ref1_List_L0,l1,l2,cond_true,Option.bind_some]
   rw [ix_wr pre t (by omega)]
  ·simp only [roomS acc.length (flat t).length (by omega),cond_true]
   exact rList_L0 D ts hz r (pre ++ [t]) (acc ++ flat t) (by rw [e]; exact ix_cons _ _ _) (by rw [← ea,flats]; simp) (by rw [List.length_append]; omega)
theorem rList_ev (D : List Decl) (ts : List (List Stmt)) (hz : szT ts ≤ 1000000) : Ev (fun n=>ref1_List n ⟨D,ts⟩) (flats ts) :=
 Ev.of_eq (fun n=>by simp only [ref1_List]; rfl) (rList_L0 D ts hz ts [] [] rfl rfl (by simpa using hz))
end Go.Su.YtcadbebhhnggdaaGreat
namespace Go.Su.YtcadbebhhnggdaaGreat
open Go.Mx Go.Proofs
set_option linter.unusedVariables false
set_option linter.unusedSimpArgs false
set_option maxHeartbeats 4000000
theorem hasName_L0 (w : ByteArray) : ∀ (l pre : List ByteArray),(pre ++ l).length ≤ 4000000 → Ev (fun n=>ref22_hasName_L0 n (pre ++ l) w pre.length) (has l w)
 | [],pre,h=>Ev.step (Ev.of_eq (g:=fun n=>some false) (fun n=>by simp only [ref22_hasName_L0,List.append_nil,ix_ge,cond_false]) (Ev.ret _))
 | x :: r,pre,h=>by
  have hp : pre.length + 1 ≤ 4000000:=by simp at h; omega
  cases hb : bytesEq x w
  ·have nx:=hasName_L0 w r (pre ++ [x]) (by rw [← ix_cons]; exact h)
   refine Ev.step (Ev.of_eq (fun n=>?_) (by simpa [has,hb] using nx))
   simp only [ref22_hasName_L0,ix_lt,ix_get,cond_true,Option.bind_some,hb,cond_false]
   rw [ix_wr pre x (by omega)]; simp
  ·refine Ev.step (Ev.of_eq (g:=fun n=>some true) (fun n=>?_) (by simpa [has,hb] using Ev.ret _))
   simp only [ref22_hasName_L0,ix_lt,ix_get,cond_true,Option.bind_some,hb]
theorem hasName_ev (l : List ByteArray) (w : ByteArray) (h : l.length ≤ 4000000) : Ev (fun n=>ref22_hasName n l w) (has l w) :=
 Ev.of_eq (fun n=>by simp only [ref22_hasName]; rfl) (hasName_L0 w l [] (by simpa using h))
theorem meets_L0 (s : Stmt) (a1 : List ByteArray) (ha : a1.length ≤ 4000000) : ∀ (l pre : List ByteArray),(pre ++ l).length ≤ 4000000 → Ev (fun n=>ref22_meets_L0 n s a1 (pre ++ l) pre.length) (l.any (has a1))
 | [],pre,h=>Ev.step (Ev.of_eq (g:=fun n=>some false) (fun n=>by simp only [ref22_meets_L0,List.append_nil,ix_ge,cond_false]) (Ev.ret _))
 | x :: r,pre,h=>by
  have hp : pre.length + 1 ≤ 4000000:=by simp at h; omega
  have hc:=hasName_ev a1 x ha
  have base : ∀ n,ref22_meets_L0 (n + 1) s a1 (pre ++ x :: r) pre.length = (ref22_hasName n a1 x).bind fun r4=>bif r4 then some true else ref22_meets_L0 n s a1 ((pre ++ [x]) ++ r) ((pre ++ [x]).length):=by
   intro n
   simp only [ref22_meets_L0,ix_lt,ix_get,cond_true,Option.bind_some]
   rw [ix_wr pre x (by omega),← ix_cons]
  cases hb : has a1 x
  ·have nx:=meets_L0 s a1 ha r (pre ++ [x]) (by rw [← ix_cons]; exact h)
   exact Ev.step (Ev.of_eq base (Ev.bind hc (Ev.no hb (by simpa [hb] using nx))))
  ·exact Ev.step (Ev.of_eq base (Ev.bind hc (Ev.yes hb (by simpa [hb] using Ev.ret _))))
theorem meets_ev (s : Stmt) (l : List ByteArray) (h : szE s.E ≤ 1000000) (hl : l.length ≤ 4000000) : Ev (fun n=>ref22_meets n s l) (hit s l):=by
 have:=tch_len s
 exact Ev.of_eq (g:=fun n=>(ref1_Touches n s).bind fun r1=>ref22_meets_L0 n s l r1 0) (fun n=>by simp only [ref22_meets]) (Ev.bind (rtouch_ev s h) (meets_L0 s l hl (tch s) [] (by simp; omega)))
theorem within_L1 (s : Stmt) (i1 i2 : Int) (hl : s.Else.length ≤ 1000000) : ∀ (l pre : List Stmt) (i : Nat),s.Else = pre ++ l → i + (flat l).length ≤ 4000000 → (∀ x ∈ l,Ev (fun n=>ref22_within n x) ((wn x : Nat) : Int)) →
  Ev (fun n=>ref22_within_L1 n s i1 i2 (i : Int) pre.length) ((i + (flat l).length : Nat) : Int)
 | [],pre,i,e,h,hx=>by
  rw [List.append_nil] at e
  exact Ev.step (Ev.of_eq (g:=fun n=>some (i : Int)) (fun n=>by simp only [ref22_within_L1,e,ix_ge,cond_false]) (by simpa [flat] using Ev.ret _))
 | x :: r,pre,i,e,h,hx=>by
  have hp : pre.length + 1 ≤ 1000000:=by rw [e] at hl; simp at hl; omega
  have hf : (flat (x :: r)).length = wn x + 1 + (flat r).length:=by rw [flat,List.length_append,fl1_len]
  have nx:=within_L1 s i1 i2 hl r (pre ++ [x]) (i + 1 + wn x) (by rw [e]; exact ix_cons _ _ _) (by omega) (fun y hy=>hx y (by simp [hy]))
  have w1 : wr (wr ((i : Int) + 1) + ((wn x : Nat) : Int)) = ((i + 1 + wn x : Nat) : Int):=by rw [wr_of (x:=(i : Int) + 1) (by omega),wr_of (by omega)]; omega
  refine Ev.step (Ev.of_eq (g:=fun n=>(ref22_within n x).bind fun r8=>ref22_within_L1 n s i1 i2 (wr (wr ((i : Int) + 1) + r8)) ((pre ++ [x]).length)) (fun n=>?_) (Ev.bind (hx x (by simp)) (by rw [w1,hf,show i + (wn x + 1 + (flat r).length) = i + 1 + wn x + (flat r).length by omega]; exact nx)))
  simp only [ref22_within_L1,e,ix_lt,ix_get,cond_true,Option.bind_some]
  rw [ix_wr pre x (by omega)]
theorem within_L0 (s : Stmt) (hb : s.Body.length ≤ 1000000) (hl : s.Else.length ≤ 1000000) (hE : ∀ x ∈ s.Else,Ev (fun n=>ref22_within n x) ((wn x : Nat) : Int)) : ∀ (l pre : List Stmt) (i : Nat),s.Body = pre ++ l → i + (flat l).length + (flat s.Else).length ≤ 4000000 → (∀ x ∈ l,Ev (fun n=>ref22_within n x) ((wn x : Nat) : Int)) →
  Ev (fun n=>ref22_within_L0 n s (i : Int) pre.length) ((i + (flat l).length + (flat s.Else).length : Nat) : Int)
 | [],pre,i,e,h,hx=>by
  rw [List.append_nil] at e
  have nx:=within_L1 s (i : Int) (pre.length : Int) hl s.Else [] i rfl (by omega) hE
  exact Ev.step (Ev.of_eq (fun n=>by simp only [ref22_within_L0,e,ix_ge,cond_false]; rfl) (by simpa [flat] using nx))
 | x :: r,pre,i,e,h,hx=>by
  have hp : pre.length + 1 ≤ 1000000:=by rw [e] at hb; simp at hb; omega
  have hf : (flat (x :: r)).length = wn x + 1 + (flat r).length:=by rw [flat,List.length_append,fl1_len]
  have nx:=within_L0 s hb hl hE r (pre ++ [x]) (i + 1 + wn x) (by rw [e]; exact ix_cons _ _ _) (by omega) (fun y hy=>hx y (by simp [hy]))
  have w1 : wr (wr ((i : Int) + 1) + ((wn x : Nat) : Int)) = ((i + 1 + wn x : Nat) : Int):=by rw [wr_of (x:=(i : Int) + 1) (by omega),wr_of (by omega)]; omega
  refine Ev.step (Ev.of_eq (g:=fun n=>(ref22_within n x).bind fun r4=>ref22_within_L0 n s (wr (wr ((i : Int) + 1) + r4)) ((pre ++ [x]).length)) (fun n=>?_) (Ev.bind (hx x (by simp)) (by rw [w1,hf,show i + (wn x + 1 + (flat r).length) + (flat s.Else).length = i + 1 + wn x + (flat r).length + (flat s.Else).length by omega]; exact nx)))
  simp only [ref22_within_L0,e,ix_lt,ix_get,cond_true,Option.bind_some]
  rw [ix_wr pre x (by omega)]
theorem within_all : (∀ s : Stmt,szS s ≤ 1000000 → Ev (fun n=>ref22_within n s) ((wn s : Nat) : Int)) ∧ ∀ l : List Stmt,szSl l ≤ 1000000 → ∀ x ∈ l,Ev (fun n=>ref22_within n x) ((wn x : Nat) : Int):=by
 refine stmt_ind ?_ (fun _ x hx=>by simp at hx) ?_
 ·intro k w v m e b l a hb hl h
  rw [szS] at h
  have l1:=len_Sl b
  have l2:=len_Sl l
  have f1:=flat_len.2 b
  have f2:=flat_len.2 l
  have nx:=within_L0 ⟨k,w,v,m,e,b,l,a⟩ (by simp only; omega) (by simp only; omega) (hl (by omega)) b [] 0 rfl (by simp only; omega) (hb (by omega))
  exact Ev.step (Ev.of_eq (fun n=>by simp only [ref22_within]; rfl) (by simpa [wn] using nx))
 ·intro s r h1 h2 h x hx
  rw [szSl] at h
  rcases List.mem_cons.1 hx with rfl | hx
  ·exact h1 (by omega)
  ·exact h2 (by omega) x hx
theorem Wrapped_L0 (p : Prog) (nm : List ByteArray) (hn : nm.length ≤ 4000000) (r1 : List Stmt) (hr : r1.length ≤ 900000) (hz : ∀ x ∈ r1,szS x ≤ 900000) : ∀ (m i : Nat) (acc : List Int),r1.length - i ≤ m → i ≤ 2000000 → acc.length + (r1.length - i) ≤ 1000000 → (∀ v ∈ acc,∃ k : Nat,k < r1.length ∧ v = k) →
  ∃ L,Ev (fun n=>cost_Wrapped_L0 n p nm r1 acc (i : Int)) L ∧ Ev (fun n=>ref22_Wrapped_L0 n p nm r1 acc (i : Int)) L ∧ L.length ≤ 1000000 ∧ ∀ v ∈ L,∃ k : Nat,k < r1.length ∧ v = k
 | m,i,acc,h1,h2,h3,h4=>by
  by_cases hi : i < r1.length
  ·match m,h1 with
   | 0,h1=>exact absurd h1 (by omega)
   | m + 1,h1 =>
    have d1 : decide ((i : Int) < ln r1) = true:=decide_eq_true (by show (i : Int) < (r1.length : Int); omega)
    have i1 : idx r1 (i : Int) = some r1[i]:=idx_of (by omega) (by rw [Int.toNat_natCast]; exact List.getElem?_eq_getElem hi)
    have hs:=hz _ (List.getElem_mem hi)
    have hE : szE r1[i].E ≤ 1000000:=by
     have : ∀ s : Stmt,szE s.E ≤ szS s:=by intro s; cases s; simp only [szS]; omega
     have:=this r1[i]; omega
    have hw:=flat_len.1 r1[i]
    rw [fl1_len] at hw
    have t1:=touches_ev r1[i] nm hE hn
    have t2:=meets_ev r1[i] nm hE hn
    cases c : hit r1[i] nm
    ·obtain ⟨L,k1,k2,k3⟩:=Wrapped_L0 p nm hn r1 hr hz m (i + 1) acc (by omega) (by omega) (by omega) h4
     have e3 : wr ((i : Int) + 1) = ((i + 1 : Nat) : Int):=by rw [wr_of (by omega)]; rfl
     refine ⟨L,Ev.step (Ev.of_eq (g:=fun n=>(cost_touches n r1[i] nm).bind fun r5=>bif r5 then (bif room s_int.i1.bytes acc.length [(i : Int)].length then (cost_size n r1[i]).bind fun r8=>cost_Wrapped_L0 n p nm r1 (acc ++ [(i : Int)]) (wr ((i : Int) + r8)) else none) else cost_Wrapped_L0 n p nm r1 acc ((i + 1 : Nat) : Int)) (fun n=>?_) (Ev.bind t1 (Ev.no c k1))),Ev.step (Ev.of_eq (g:=fun n=>(ref22_meets n r1[i] nm).bind fun r8=>bif r8 then (bif room s_int.i1.bytes acc.length [(i : Int)].length then (ref22_within n r1[i]).bind fun r11=>ref22_Wrapped_L0 n p nm r1 (acc ++ [(i : Int)]) (wr (wr ((i : Int) + r11) + 1)) else none) else ref22_Wrapped_L0 n p nm r1 acc ((i + 1 : Nat) : Int)) (fun n=>?_) (Ev.bind t2 (Ev.no c k2))),k3⟩
     ·simp only [cost_Wrapped_L0,d1,cond_true,i1,Option.bind_some,e3]
     ·simp only [ref22_Wrapped_L0,d1,cond_true,i1,Option.bind_some,jn,e3]
    ·obtain ⟨L,k1,k2,k3⟩:=Wrapped_L0 p nm hn r1 hr hz m (i + (wn r1[i] + 1)) (acc ++ [(i : Int)]) (by omega) (by omega) (by simp; omega) (fun v hv=>by
      rcases List.mem_append.1 hv with hv | hv
      ·exact h4 v hv
      ·rw [List.mem_singleton] at hv; exact ⟨i,hi,hv⟩)
     have e3 : wr ((i : Int) + ((wn r1[i] + 1 : Nat) : Int)) = ((i + (wn r1[i] + 1) : Nat) : Int):=by rw [wr_of (by omega)]; omega
     have e4 : wr (wr ((i : Int) + ((wn r1[i] : Nat) : Int)) + 1) = ((i + (wn r1[i] + 1) : Nat) : Int):=by rw [wr_of (x:=(i : Int) + ((wn r1[i] : Nat) : Int)) (by omega),wr_of (by omega)]; omega
     have q1:=size_ev r1[i] (by omega)
     have q2:=within_all.1 r1[i] (by omega)
     have rm : room s_int.i1.bytes acc.length [(i : Int)].length = true:=roomC _ _ (by simp; omega)
     refine ⟨L,Ev.step (Ev.of_eq (g:=fun n=>(cost_touches n r1[i] nm).bind fun r5=>bif r5 then (bif room s_int.i1.bytes acc.length [(i : Int)].length then (cost_size n r1[i]).bind fun r8=>cost_Wrapped_L0 n p nm r1 (acc ++ [(i : Int)]) (wr ((i : Int) + r8)) else none) else cost_Wrapped_L0 n p nm r1 acc (wr ((i : Int) + 1))) (fun n=>?_) (Ev.bind t1 (Ev.yes c (Ev.yes rm (Ev.bind q1 (by rw [e3]; exact k1)))))),Ev.step (Ev.of_eq (g:=fun n=>(ref22_meets n r1[i] nm).bind fun r8=>bif r8 then (bif room s_int.i1.bytes acc.length [(i : Int)].length then (ref22_within n r1[i]).bind fun r11=>ref22_Wrapped_L0 n p nm r1 (acc ++ [(i : Int)]) (wr (wr ((i : Int) + r11) + 1)) else none) else ref22_Wrapped_L0 n p nm r1 acc (wr ((i : Int) + 1))) (fun n=>?_) (Ev.bind t2 (Ev.yes c (Ev.yes rm (Ev.bind q2 (by rw [e4]; exact k2)))))),k3⟩
     ·simp only [cost_Wrapped_L0,d1,cond_true,i1,Option.bind_some]
     ·simp only [ref22_Wrapped_L0,d1,cond_true,i1,Option.bind_some,jn]
  ·have d1 : decide ((i : Int) < ln r1) = false:=decide_eq_false (by show ¬ (i : Int) < (r1.length : Int); omega)
   have hc : ∀ n,Clip_int n acc = some acc:=fun n=>by simp only [Clip_int,sub_all,Option.bind_some]
   exact ⟨acc,Ev.step (Ev.of_eq (g:=fun n=>some acc) (fun n=>by simp only [cost_Wrapped_L0,d1,cond_false,hc,Option.bind_some]) (Ev.ret _)),Ev.step (Ev.of_eq (g:=fun n=>some acc) (fun n=>by simp only [ref22_Wrapped_L0,d1,cond_false]) (Ev.ret _)),by omega,h4⟩
theorem Wrapped_ev (D : List Decl) (ts : List (List Stmt)) (nm : List ByteArray) (hn : nm.length ≤ 4000000) (hz : szT ts ≤ 100000) : ∃ L,Ev (fun n=>cost_Wrapped n ⟨D,ts⟩ nm) L ∧ Ev (fun n=>ref22_Wrapped n ⟨D,ts⟩ nm) L ∧ L.length ≤ 1000000 ∧ ∀ v ∈ L,∃ k : Nat,k < (flats ts).length ∧ v = k:=by
 have l1:=len_T ts
 obtain ⟨L,k1,k2,k3⟩:=Wrapped_L0 ⟨D,ts⟩ nm hn (flats ts) (by omega) (fun x hx=>by have:=sz_flats ts x hx; omega) (flats ts).length 0 [] (by omega) (by omega) (by simp; omega) (by simp)
 exact ⟨L,Ev.of_eq (g:=fun n=>(tree_List n ⟨D,ts⟩).bind fun r1=>cost_Wrapped_L0 n ⟨D,ts⟩ nm r1 [] 0) (fun n=>by simp only [cost_Wrapped]) (Ev.bind (List_ev D ts (by omega)) k1),Ev.of_eq (g:=fun n=>(ref1_List n ⟨D,ts⟩).bind fun r1=>ref22_Wrapped_L0 n ⟨D,ts⟩ nm r1 [] 0) (fun n=>by simp only [ref22_Wrapped]) (Ev.bind (rList_ev D ts (by omega)) k2),k3⟩
end Go.Su.YtcadbebhhnggdaaGreat
